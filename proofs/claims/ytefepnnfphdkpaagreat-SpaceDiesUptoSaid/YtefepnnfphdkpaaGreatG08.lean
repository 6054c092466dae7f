/- SpaceDies: a part of its proof; conditions: its statement's. -/
import Derived.Test.YtefepnnfphdkpaaGreatG07
import Derived.Test.YtefepnnfphdkpaaGreatG02
set_option linter.defProp false
namespace Go.Proofs.YtefepnnfphdkpaaGreat.Am
open Go
def gx:=@Tryz.underlying50
def Ja:=@Tryz.func31
variable {X Y:aO} {cl:Bool} {C:fH} {code:Code} {d:rU} {δ:Dk} {ε ah:aZ} {A:aZ→aO} {pg:aZ→Int→List Nat} {lv dd:aZ→Prop} {Q:Ex→List (Nat×V)→H→Prop} {fn:Func} {h:H} {e:Int} {B0 P':Int→List Nat} {pd:Int→Prop} {now bR:List (Int×List Nat)} {cs:List (List Nat)} {E:List (Nat×V)} {S:List aO} {U:List Bool} {mk b l data c c' R M L d_:List Nat} {rs:List ct} {args us Rt ds Lt:List V} {N ba aB F g n tx B aM lo i j a z k link extra f id off p1 lk ow q r K p4 p5 p6:Nat} {P:Program} {t te t':TypeId} {x u rv y uv:V}
structure FS (N ba aB:Nat)(mk:List Nat)(rs:List ct)(B0:Int→List Nat)(g:Int→Option Nat)(pd:Int→Prop)(ε:aZ): Prop where
 alive:ε.2.2.dead=false
 ri:vw (RI ba pd B0 rs g) (bz ε)
 lr:LR ba aB mk rs (cU ε.2)
 ec:EC N (bz ε)
 len:ε.2.2.log.length≤16777216
def Lu (N ba aB:Nat)(mk:List Nat)(rs:List ct)(B0:Int→List Nat)(g:Int→Option Nat)(F:Nat)(e:Int)(ah:aZ)(R:Prop): Prop :=
 (ah.2.2.dead=false∧R)∨(e=9∧ah.2.2.dead=true∧sN N ba aB mk rs B0 g F ah.2.2)
theorem sN.low {I:Nat}{g:Int→Option Nat}(h:sN N ba aB mk rs B0 g I δ)(J:F≤I): sN N ba aB mk rs B0 g F δ:=by
 obtain⟨pd,C,d,x,tn,k1,k2,k3,k4⟩:=h.ex
 exact⟨pd,C,d,x,tn,k1,k2,bT J k3,k4⟩
section
variable {g:Int→Option Nat} {n:Int} {l:List Int} {cs:List cn}
theorem FS.le (h:FS N ba aB mk rs B0 g pd ε): ε.2.1.forced≤ε.2.1.b.length:=by
 have q:=mz.1 h.ri
 have I:=q.len
 have J:=q.le
 show(bz ε).2.1.forced≤(bz ε).2.1.b.length
 rw[I];exact J
theorem Qf {bN:Pl}(I:fT ε.1 bN): fT (bz ε).1 bN:=I
theorem fC.mE (hr:fC ε n e b ah)(h:FS N ba aB mk rs B0 g pd ε): Lu N ba aB mk rs B0 g ε.2.1.forced e ah (fC (bz ε) n e b (bz ah)):=by
 have key:∀(bN:Pl) (i:Nat),fT ε.1 bN→((outF (bN,ε.2) i).1=(outF (bN,cU ε.2) i).1∧(outF (bN,ε.2) i).2.2.2.dead=false∧bz (outF (bN,ε.2) i).2=(outF (bN,cU ε.2) i).2)∨((outF (bN,ε.2) i).1=9∧(outF (bN,ε.2) i).2.2.2.dead=true∧sN N ba aB mk rs B0 g ε.2.1.forced (outF (bN,ε.2) i).2.2.2):=fun bN i I=>by
  obtain⟨ec2,_⟩:=h.ec.rD (Qf I)
  have oN:vw (RI ba pd B0 rs g) (bN,cU ε.2):=by
   show RI ba pd B0 rs g (j4 bN) bN.bq (cU ε.2)
   rw[IW I,I.bq];exact mz.1 h.ri
  exact Wk (ε:=(bN,ε.2)) (f:=⟨0,[],0,false,false⟩) oN h.lr ec2 h.alive h.len
 cases hr with
 |arg h1=>exact .inl ⟨h.alive,.arg h1⟩
 |z6 i f h1 h2 hl hf=>exact .inl ⟨h.alive,.z6 i f h1 h2 hl hf⟩
 |out bN i f h1 h2 hl I hf hh he =>
  rcases key bN i I with⟨k1,k2,J⟩|⟨k1,k2,J⟩
  ·refine .inl ⟨k2,?_⟩
   rw[k1,J]
   exact .out (ε:=bz ε) bN i f h1 h2 hl I hf hh (by rw[k1] at he;exact he)
  ·exact .inr ⟨k1,k2,J⟩
 |read bN i f h1 h2 hl I hf hh he hr =>
  rcases key bN i I with⟨k1,k2,J⟩|⟨k1,k2,J⟩
  ·have r1:(outF (bN,ε.2) i).2.2.2.lQ n=(outF (bN,cU ε.2) i).2.2.2.lQ n:=by rw[←J];rfl
   refine .inl ⟨k2,?_⟩
   have:=fC.read (ε:=bz ε) bN i f h1 h2 hl I hf hh (by rw[k1] at he;exact he) (by rw[r1] at hr;exact hr)
   grind[bz]
  ·omega
 |bad bN i f h1 h2 hl I hf hh he hr hc =>
  rcases key bN i I with⟨k1,k2,J⟩|⟨k1,k2,J⟩
  ·have r1:(outF (bN,ε.2) i).2.2.2.lQ n=(outF (bN,cU ε.2) i).2.2.2.lQ n:=by rw[←J];rfl
   have r2:(outF (bN,ε.2) i).2.2.2.at n=(outF (bN,cU ε.2) i).2.2.2.at n:=by rw[←J];rfl
   refine .inl ⟨k2,?_⟩
   have:=fC.bad (ε:=bz ε) bN i f h1 h2 hl I hf hh (by rw[k1] at he;exact he) (by rw[r1] at hr;exact hr) (by rw[r2] at hc;exact hc)
   grind[bz]
  ·omega
 |load bN i f h1 h2 hl I hf hh he hr hc =>
  rcases key bN i I with⟨k1,k2,J⟩|⟨k1,k2,J⟩
  ·have r1:(outF (bN,ε.2) i).2.2.2.lQ n=(outF (bN,cU ε.2) i).2.2.2.lQ n:=by rw[←J];rfl
   have r2:(outF (bN,ε.2) i).2.2.2.at n=(outF (bN,cU ε.2) i).2.2.2.at n:=by rw[←J];rfl
   refine .inl ⟨k2,?_⟩
   have:=fC.load (ε:=bz ε) bN i f h1 h2 hl I hf hh (by rw[k1] at he;exact he) (by rw[r1] at hr;exact hr) (by rw[r2] at hc;exact hc)
   grind[bz]
  ·omega
theorem FS.next (h:FS N ba aB mk rs B0 g pd ε)(J:ah.2.2.dead=false)(he:EC N (bz ah))(I:∀P:VP,mu N P→vw P (bz ε)→vw P (bz ah)): FS N ba aB mk rs B0 g pd ah∧ε.2.1.forced≤ah.2.1.forced :=
 ⟨⟨J,I _ (RI.kI N) h.ri,I _ ((my ba aB mk rs).kI N) h.lr,he,by
  have q:(bz ah).2.2.log.length=ε.2.2.log.length:=I _ ((Cp ε.2.2.log.length).kI N) rfl
  have q:ah.2.2.log.length=ε.2.2.log.length:=q
  rw[q];exact h.len⟩,(I _ ((vK ε.2.1.forced).kI N) ⟨aU _,h.le⟩).1⟩
theorem mq.mE (J:mq ε n e b ah)(h:FS N ba aB mk rs B0 g pd ε): Lu N ba aB mk rs B0 g ε.2.1.forced e ah (mq (bz ε) n e b (bz ah)):=by
 cases J with
 |dead I=>rw[h.alive] at I;cases I
 |jt e b ah I J he =>
  rcases J.mE h with⟨k1,k2⟩|k
  ·exact .inl ⟨k1,.jt _ _ _ I k2 he⟩
  ·exact .inr k
 |th b ah I J he =>
  rcases J.mE h with⟨k1,k2⟩|⟨k,_⟩
  ·exact .inl ⟨k1,.th (ε:=bz ε) _ _ I k2 he⟩
  ·cases k
 |read b ah I J he =>
  rcases J.mE h with⟨k1,k2⟩|⟨k,_⟩
  ·exact .inl ⟨k1,.read (ε:=bz ε) _ _ I k2 he⟩
  ·cases k
theorem GRd.mE (hr:GRd ε now false n e b ah)(h:FS N ba aB mk rs B0 g pd ε): Lu N ba aB mk rs B0 g ε.2.1.forced e ah (GRd (bz ε) now false n e b (bz ah)):=by
 cases hr with
 |arg I=>exact .inl ⟨h.alive,.arg I⟩
 |cz I h2 J=>cases J
 |own b I h2 J hl=>exact .inl ⟨h.alive,.own _ I h2 J hl⟩
 |read e b ah I h2 J hl hr =>
  rcases hr.mE h with⟨k1,k2⟩|k
  ·exact .inl ⟨k1,.read (ε:=bz ε) _ _ _ I h2 J hl k2⟩
  ·exact .inr k
theorem nK.mE (I:nK ε now false n b e bR ah)(h:FS N ba aB mk rs B0 g pd ε): Lu N ba aB mk rs B0 g ε.2.1.forced e ah (nK (bz ε) now false n b e bR (bz ah)):=by
 cases I with
 |may e c ah I he =>
  rcases I.mE h with⟨k1,k2⟩|k
  ·exact .inl ⟨k1,.may _ _ _ k2 he⟩
  ·exact .inr k
 |bad c ah I J =>
  rcases I.mE h with⟨k1,k2⟩|⟨k,_⟩
  ·exact .inl ⟨k1,.bad _ _ k2 J⟩
  ·cases k
 |done c ah I J =>
  rcases I.mE h with⟨k1,k2⟩|⟨k,_⟩
  ·exact .inl ⟨k1,.done _ _ k2 J⟩
  ·cases k
theorem ChR.mE (I:ChR now l ε e cs ah): fD (bz ε)→FS N ba aB mk rs B0 g pd ε→∀ {F:Nat},F≤ε.2.1.forced→Lu N ba aB mk rs B0 g F e ah (ChR now l (bz ε) e cs (bz ah)):=by
 induction I with
 |nil ε=>intro _ h F _;exact .inl ⟨h.alive,.nil _⟩
 |err n l ε e b ah I he =>
  intro J h F hF
  rcases I.mE h with⟨k1,k2⟩|⟨k1,k2,k3⟩
  ·exact .inl ⟨k1,.err _ _ _ _ _ _ k2 he⟩
  ·exact .inr ⟨k1,k2,k3.low hF⟩
 |part n l ε d_ b ah c e cs lp I hb hd hc hl ht ih =>
  intro J h F hF
  rcases I.mE h with⟨k1,k2⟩|⟨k,_⟩
  ·obtain⟨q1,q2⟩:=h.next k1 (k2.ec h.ec J.pins).1 (fun P hP hv=>hP.rd k2 h.ec hv)
   rcases ih (k2.jg J) q1 (bT hF q2) with⟨j1,j2⟩|j
   ·exact .inl ⟨j1,.part _ _ _ _ _ _ _ _ _ _ k2 hb hd hc hl j2⟩
   ·exact .inr j
  ·cases k
 |whole n l ε d_ b ah e cs lp I hb hd ht ih =>
  intro J h F hF
  rcases I.mE h with⟨k1,k2⟩|⟨k,_⟩
  ·obtain⟨q1,q2⟩:=h.next k1 (k2.ec h.ec J.pins).1 (fun P hP hv=>hP.rd k2 h.ec hv)
   rcases ih (k2.jg J) q1 (bT hF q2) with⟨j1,j2⟩|j
   ·exact .inl ⟨j1,.whole _ _ _ _ _ _ _ _ _ k2 hb hd j2⟩
   ·exact .inr j
  ·cases k
end
theorem yx {x:LD}{kd:Int}{pv nx:Nat}{c:List cn}(I:x.2.dead=false):
  ((aF x kd tx pv nx data c)=((0,9),(x.1,{ x.2.die with tail:=cA x.1 kd tx pv nx data c }))∧(aF (cU x) kd tx pv nx data c).1.2=0∧(aF (cU x) kd tx pv nx data c).2.2={ x.2.live with log:=x.2.log++cA x.1 kd tx pv nx data c }∧x.2.log.length+(cA x.1 kd tx pv nx data c).length≤x.2.room) ∨
  ((aF x kd tx pv nx data c).1=(aF (cU x) kd tx pv nx data c).1∧(aF x kd tx pv nx data c).2.2.dead=false∧cU (aF x kd tx pv nx data c).2=(aF (cU x) kd tx pv nx data c).2):=by
 by_cases hg:dY kd c=false
 ·grind[aF]
 ·by_cases hb:1048576<(dy kd tx pv nx data c).length
  ·grind[aF]
  ·by_cases J:x.2.room<x.2.log.length+(cA x.1 kd tx pv nx data c).length
   ·have a1:x.2.jq (cA x.1 kd tx pv nx data c)=(7,x.2):=by grind[Dk.jq]
    have a2:(cU x).2.jq (cA (cU x).1 kd tx pv nx data c)=(7,(cU x).2):=by
     rw[Dk.jq,ak (by show ¬x.2.dead=true;rw[I];decide),aJ (show(cU x).2.room<(cU x).2.log.length+(cA (cU x).1 kd tx pv nx data c).length from J)]
    grind[aF]
   ·have a2:(cU x).2.jq (cA (cU x).1 kd tx pv nx data c)=(0,{ x.2.live with log:=x.2.log++cA x.1 kd tx pv nx data c }):=by
     rw[Dk.jq,ak (by show ¬x.2.dead=true;rw[I];decide),ak (show ¬(cU x).2.room<(cU x).2.log.length+(cA (cU x).1 kd tx pv nx data c).length from J),ak (by show ¬(-1:Int)=0;decide)];rfl
    have e2:aF (cU x) kd tx pv nx data c=(((cU x).1.base+(cU x).1.b.length,0),((cU x).1.app (cA x.1 kd tx pv nx data c),{ x.2.live with log:=x.2.log++cA x.1 kd tx pv nx data c })):=by
     rw[aF,ak hg,ak hb,a2,ak (by simp)];rfl
    by_cases hf:x.2.aS=0
    ·grind[Dk.jq,aF]
    ·have a1:x.2.jq (cA x.1 kd tx pv nx data c)=(0,{ x.2.cY with log:=x.2.log++cA x.1 kd tx pv nx data c }):=by grind[Dk.jq]
     have e1:aF x kd tx pv nx data c=((x.1.base+x.1.b.length,0),(x.1.app (cA x.1 kd tx pv nx data c),{ x.2.cY with log:=x.2.log++cA x.1 kd tx pv nx data c })):=by
      grind[aF]
     rw[e1,e2];exact .inr ⟨rfl,I,rfl⟩
section
variable {g:Int→Option Nat} {n:Int} {cs:List cn}
theorem PtR.mE {l:List Int}(J:PtR now aM l ε e ah): ∀ {p:Int→Prop},fD (bz ε)→FS N ba aB mk rs B0 g p ε→NW N now→(∀n∈l,0≤n∧n<N)→l.Nodup→(∀n∈l,p n)→(∃t r,rs=t++[r]∧aM=ba+szB t)→aM<18446744073709551616→∀ {F:Nat},F≤ε.2.1.forced →
  Lu N ba aB mk rs B0 g F e ah (PtR now aM l (bz ε) e (bz ah)):=by
 induction J with
 |nil ε=>intro p _ h _ _ _ _ _ _ F _;exact .inl ⟨h.alive,.nil _⟩
 |jt n l ε e b ah J he =>
  intro p h3 h hn hl _ _ _ _ F hF
  rcases J.mE h with⟨k1,k2⟩|⟨k1,k2,k3⟩
  ·exact .inl ⟨k1,.jt _ _ _ _ _ _ k2 he⟩
  ·exact .inr ⟨k1,k2,k3.low hF⟩
 |bad n l ε b0 b ah J hb he =>
  intro p h3 h hn hl _ _ _ _ F hF
  rcases J.mE h with⟨k1,k2⟩|⟨k,_⟩
  ·exact .inl ⟨k1,.bad (ε:=bz ε) _ _ _ _ _ k2 hb he⟩
  ·cases k
 |put n l ε b0 b ah e lp J hb he ht ih =>
  intro p h3 h hn hl lK hp I cE F hF
  rcases J.mE h with⟨k1,k2⟩|⟨k,_⟩
  ·have lZ:=hl n b7
   obtain⟨c1,c2,c3,c4⟩:=k2.ec h.ec
   obtain⟨i,f,p1,p2,p3,p4,p5⟩:=k2.at h3.pins
   have hg:=hn.look hb
   have e1:=tj (aM:=aM) p1 p2 p3 hg.1
   have qN:iV ah.1 n b aM=iV (bz ah).1 n b aM:=rfl
   obtain⟨q1,q2⟩:=c1.put (aM:=aM) p1 p2 hg.1 hg.2 lZ.1 lZ.2
   have IV:=(k2.put (b:=b) (aM:=aM) h3).1
   have sL:vw (RI ba p B0 rs g) (bz ah):=(RI.kI N).jt k2 h.ec h.ri
   have oN:=RI.put sL c1 p1 p2 (eC hg.1) lZ.1 (hp n b7) I cE
   have I_:=((my ba aB mk rs).kI N).jt k2 h.ec h.lr
   have hF2:=(((vK ε.2.1.forced).kI N).jt k2 h.ec ⟨aU _,h.le⟩).1
   have Qe:(bz ah).2.2.log.length=ε.2.2.log.length:=((Cp ε.2.2.log.length).kI N).jt k2 h.ec rfl
   obtain⟨d1,d2⟩:=List.nodup_cons.1 lK
   have h':FS N ba aB mk rs B0 g (fun m=>p m∧m≠n) ((iV ah.1 n b aM).2,ah.2):=by
    refine⟨k1,?_,I_,?_,?_⟩
    ·rw[qN,e1];exact oN
    ·rw[qN,e1];exact q1
    ·have Qe:ah.2.2.log.length=ε.2.2.log.length:=Qe
     rw[Qe];exact h.len
   rcases ih IV h' hn (fun m hm=>hl m (b5 _ hm)) d2 (fun m hm=>⟨hp m (b5 _ hm),fun q=>d1 (by grind)⟩) I cE (bT hF hF2) with⟨j1,j2⟩|j
   ·exact .inl ⟨j1,.put (ε:=bz ε) _ _ _ _ _ _ _ k2 hb he j2⟩
   ·exact .inr j
  ·cases k
theorem ChR.laid {kd:Nat}{η I:aZ}(hc:ChR now (aE now) η 0 cs I)(h:EI N B η)(hB:B≤1000)(hn:NW N now)(hl:LR ba aB mk rs η.2)(h1:1≤kd)(h2:kd≤7)(ht:tx<65536)(hv:vw (RI ba sM B0 rs g) η)(dZ:Ah N rs B0 η)(nH:uI rs B0)
 (ha:(aF I.2 kd tx 0 0 data cs).1.2=0): ∃(r:ct) (g':Int→Option Nat),r.kd=kd∧(aF I.2 kd tx 0 0 data cs).1.1=ba+szB rs∧ba+szB rs<18446744073709551616∧LR ba aB mk (rs++[r]) (aF I.2 kd tx 0 0 data cs).2 ∧
   vw (RI ba (fun n=>n∈aE now) B0 (rs++[r]) g') (I.1,(aF I.2 kd tx 0 0 data cs).2)∧EI N (B+1) (I.1,(aF I.2 kd tx 0 0 data cs).2)∧uI (rs++[r]) B0∧(∀n rec,g' n=some rec→g n=some rec∨rec=ba+szB rs) ∧
   ∀n,0≤n→n<(N:Int)→jb (eu (rs++[r]) B0 n) (match lookL n now with|some b=>b|none=>pgA η n):=by
 have J:∀n∈aE now,0≤n∧n<N:=fun n hq=>hn.keys n (fu.1 hq)
 have hN:=h.many
 have fA:dY kd cs=true:=by
  refine xP ⟨by omega,by omega⟩ (hc.fit (fun x hx=>eC (hn.good x hx).1) fun n hq => ?_)<;>grind
 have lK:(aE now).Nodup:=(eF _).nodup_iff.2 hn.nodup
 obtain⟨c1,c2,c3⟩:=hc.ec h.ec h.ok J
 have hi:EI N B I:=⟨hc.jg h.ok,c1,hc.el h.el,bT hc.bG h.bG⟩
 have mc:=(my ba aB mk rs).ch hc hl
 obtain⟨r,k1,k2,k3,k4,k5,k6,k7,k8,k9,Y2,_⟩:=mc.app h1 fA ht ha
 obtain⟨a1,a2,a3⟩:=hi.app (kd:=kd) (tx:=tx) (pv:=0) (nx:=0) (data:=data) (c:=cs) hB fA
 have a3:=a3.resolve_right (by omega)
 obtain⟨_,a4⟩:=a3
 have sL:vw (RI ba sM B0 rs g) I:=(RI.kI N).ch hc h.ec h.ok hv
 obtain⟨s1,s2,s3,s4⟩:=hc.st (σ:=eu rs B0) h.ec h.ok hn lK J hv (fun n hm=>by have:=J n hm;exact dZ n this.1 this.2)
 subst k7
 have fU:=hi.el.size
 have BB:=mc.b
 have Y4:=mc.base
 have cE:ba+szB rs<18446744073709551616:=by
  grind
 have iI:∀n,n∈aE now↔uH r n:=fun n=>(s3 n).symm
 have oN:=RI.app (mz.1 sL) (r:=r) (fun n hg hq=>s4 n ((iI n).2 hq) hg) (μ:=(aF I.2 kd tx 0 0 data r.aQ).2.1) (δ:=(aF I.2 kd tx 0 0 data r.aQ).2.2)
  (by rw[k9.base,Y4]) k9.b (by rw[a4];rfl) k9.log (by rw[a4]) (by rw[a4]) (by rw[a4]) (by rw[a4]) (by rw[a4]) (by rw[a4]) iI
 refine⟨r,_,k2,k8,cE,k9,oN,a1,nH.app (hc.lt hn) (fun n hq => ?_),fun n rec hq => ?_,fun n h0 oz => ?_⟩
 ·have hm:=(iI n).2 hq
  cases hb:lookL n now with
  |none=>grind[fu,f_]
  |some b =>
   rw[qj]
   show bW (i_ r.aQ (eu rs B0) n)=true
   rw[(s1 n hm b hb).good];exact(hn.look hb).1
 ·grind
 ·rw[qj]
  show jb (i_ r.aQ (eu rs B0) n) _
  cases hq:lookL n now with
  |some b =>
   have hm:n∈aE now:=fu.2 ((fI hq) |> m4 (f:=(·.1)))
   exact s1 n hm b hq
  |none =>
   have hm:n∉aE now:=fun q=>f_.1 hq (fu.1 q)
   rw[s2 n hm]
   exact dZ n h0 oz
theorem DnR.mE {kd:Nat}(hr:DnR ε now kd tx 0 0 data 0 aM e cl ah)(h:FS N ba aB mk rs B0 g sM ε)(hi:EI N B (bz ε))(hB:B≤1000)(hn:NW N now)(h1:1≤kd)(h2:kd≤7)(ht:tx<65536)(dZ:Ah N rs B0 (bz ε))(nH:uI rs B0):
  (ah.2.2.dead=false∧DnR (bz ε) now kd tx 0 0 data 0 aM e cl (bz ah))∨(e=9∧aM=0∧ah.2.2.dead=true∧sN N ba aB mk rs B0 g ε.2.1.forced ah.2.2) ∨
  (e=9∧aM=0∧ah.2.2.dead=true∧∃(r:ct) (g':Int→Option Nat),r.kd=kd∧sN N ba aB mk (rs++[r]) B0 g' ε.2.1.forced ah.2.2∧uI (rs++[r]) B0∧(∀n rec,g' n=some rec→g n=some rec∨rec=ba+szB rs) ∧
   ∀n,0≤n→n<(N:Int)→jb (eu (rs++[r]) B0 n) (match lookL n now with|some b=>b|none=>pgA (bz ε) n)):=by
 have J:∀n∈aE now,0≤n∧n<N:=fun n hq=>hn.keys n (fu.1 hq)
 have lK:(aE now).Nodup:=(eF _).nodup_iff.2 hn.nodup
 cases hr with
 |arg hh=>omega
 |dead _ _ _ hd=>rw[h.alive] at hd;cases hd
 |kf e c ah q1 q2 q3 hd hc he =>
  rcases hc.mE hi.ok h (aU _) with⟨k1,k2⟩|⟨k1,k2,k3⟩
  ·exact .inl ⟨k1,.kf _ _ _ q1 q2 q3 hd k2 he⟩
  ·grind
 |app c I q1 q2 q3 hd hc he =>
  rcases hc.mE hi.ok h (aU _) with⟨k1,k2⟩|⟨k,_⟩
  ·obtain⟨c1,c2,c3⟩:=k2.ec hi.ec hi.ok J
   obtain⟨f1,f2⟩:=h.next k1 c1 (fun P hP hv=>hP.ch k2 h.ec hi.ok hv)
   rcases yx (x:=I.2) (kd:=kd) (tx:=tx) (pv:=0) (nx:=0) (data:=data) (c:=c) k1 with⟨a1,a2,a3,a4⟩|⟨a1,a2,a3⟩
   ·refine .inr (.inr ⟨by rw[a1],rfl,by rw[a1];rfl,?_⟩)
    obtain⟨r,g',r1,r2,r3,r4,r5,r6,r7,r8,r9⟩:=k2.laid hi hB hn h.lr h1 h2 ht h.ri dZ nH (kd:=kd) (tx:=tx) (data:=data) a2
    refine⟨r,g',r1,⟨_,_,_,_,none,mz.1 r5,r4,?_,r6.ec.dk.aq,r6.ok.ok.dk.len,?_,fun w hw=>(by cases hw)⟩,r7,r8,r9⟩
    ·have:∀ {x:LD} {kd:Int} {tx pv nx:Nat} {dt:List Nat} {c:List cn},(aF x kd tx pv nx dt c).2.1.forced=x.1.forced:=fun {x kd tx pv nx dt c}=>by
      rcases ff x kd tx pv nx dt c with⟨e,_,_,hq⟩|⟨_,_,hq⟩|⟨_,_,_,_,_,hq⟩<;>rw[hq]
      rfl
     rw[this];exact f2
    ·have ht:I.2.2.tail=[]:=f1.lr.tail
     have Y7:I.2.2.dA=none:=f1.lr.dA
     have a3:(aF (bz I).2 kd tx 0 0 data c).2.2={ I.2.2.live with log:=I.2.2.log++cA I.2.1 kd tx 0 0 data c }:=a3
     rw[a3,a1]
     refine⟨?_,rfl,rfl,rfl,rfl,Y7⟩
     show I.2.2.log++cA I.2.1 kd tx 0 0 data c=(I.2.2.log++cA I.2.1 kd tx 0 0 data c)++I.2.2.tail
     rw[ht,ej]
   ·have:=DnR.app (ε:=bz ε) (now:=now) (kd:=kd) (tx:=tx) (pv:=0) (nx:=0) (data:=data) c (bz I) q1 q2 q3 hd k2 (by rw[a1] at he;exact he)
    grind[bz]
  ·cases k
 |put c I e jH q1 q2 q3 hd hc ha hp =>
  rcases hc.mE hi.ok h (aU _) with⟨k1,k2⟩|⟨k,_⟩
  ·obtain⟨c1,c2,c3⟩:=k2.ec hi.ec hi.ok J
   obtain⟨f1,f2⟩:=h.next k1 c1 (fun P hP hv=>hP.ch k2 h.ec hi.ok hv)
   rcases yx (x:=I.2) (kd:=kd) (tx:=tx) (pv:=0) (nx:=0) (data:=data) (c:=c) k1 with⟨a1,_⟩|⟨a1,a2,a3⟩
   ·grind
   ·have Ye:(aF (bz I).2 kd tx 0 0 data c).1.2=0:=by
     show(aF (cU I.2) kd tx 0 0 data c).1.2=0
     rw[←a1];exact ha
    obtain⟨r,g',r1,r2,r3,r4,r5,r6,r7,r8,r9⟩:=k2.laid hi hB hn h.lr h1 h2 ht h.ri dZ nH (kd:=kd) (tx:=tx) (data:=data) Ye
    have e3:bz (I.1,(aF I.2 kd tx 0 0 data c).2)=((bz I).1,(aF (bz I).2 kd tx 0 0 data c).2):=by
     show(I.1,cU (aF I.2 kd tx 0 0 data c).2)=_
     rw[a3];rfl
    have hlf:(aF I.2 kd tx 0 0 data c).2.1.forced=I.2.1.forced:=by
     rcases ff I.2 kd tx 0 0 data c with⟨e,_,_,hq⟩|⟨_,_,hq⟩|⟨_,_,_,_,_,hq⟩<;>rw[hq]
     rfl
    have hF:FS N ba aB mk (rs++[r]) B0 g' (fun n=>n∈aE now) (I.1,(aF I.2 kd tx 0 0 data c).2):=by
     refine⟨a2,by grind,?_,by rw[e3];exact r6.ec,?_⟩
     ·grind[bz]
     ·have:=r6.ok.ok.dk.len
      have e5:(aF I.2 kd tx 0 0 data c).2.2.log=(aF (bz I).2 kd tx 0 0 data c).2.2.log:=by
       show(cU (aF I.2 kd tx 0 0 data c).2).2.log=_
       rw[a3];rfl
      grind
    have Y3:(aF I.2 kd tx 0 0 data c).1.1=ba+szB rs:=by rw[a1];exact r2
    rcases hp.mE (by rw[e3];exact r6.ok) hF hn J lK (fun n hm=>hm) ⟨rs,r,rfl,Y3⟩ (by omega) (F:=ε.2.1.forced) (by grind) with⟨j1,j2⟩|⟨j1,j2,j3⟩
    ·refine .inl ⟨j1,?_⟩
     rw[e3,a1] at j2
     have:=DnR.put (ε:=bz ε) (now:=now) (kd:=kd) (tx:=tx) (pv:=0) (nx:=0) (data:=data) c (bz I) e (bz ah) q1 q2 q3 hd k2 Ye j2
     rw[a1];exact this
    ·grind
  ·cases k
end
section
variable {ac5 ac6:Nat} {GY acC:List Nat} {g:Int→Option Nat}
theorem Wl {C:Int→List Nat→Prop}{d:List (Int×(Nat×Bool))}{x y:LD}(J:cU x=y)(h:RI ba pd B0 rs g C d y)(I:LR ba aB mk rs y)(hF:F≤y.1.forced)(hN:y.2.aq.length=N)(hlen:y.2.log.length≤16777216): sN N ba aB mk rs B0 g F x.2.die:=by
 subst J
 exact⟨_,_,_,_,none,h,I,hF,hN,hlen,⟨rfl,rfl,rfl,rfl,rfl,I.dA⟩,fun w hw=>(by cases hw)⟩
end
section
variable {g:Int→Option Nat}
theorem FS.dead (h:FS N ba aB mk rs B0 g pd ε): sN N ba aB mk rs B0 g ε.2.1.forced ε.2.2.die :=
 Wl (y:=cU ε.2) rfl (mz.1 h.ri) h.lr (aU _) h.ec.dk.aq h.len
theorem FS.Y8 (h:FS N ba aB mk rs B0 g pd ε)(n:Nat): (aI ε.2 n=(9,(ε.2.1,ε.2.2.die))∧sN N ba aB mk rs B0 g ε.2.1.forced ε.2.2.die) ∨
  ((aI ε.2 n).1=(aI (bz ε).2 n).1∧(aI ε.2 n).2.2.dead=false∧bz (ε.1,(aI ε.2 n).2)=((bz ε).1,(aI (bz ε).2 n).2)):=by
 rcases Aj (n:=n) h.alive with k|⟨k1,k2,I⟩
 ·exact .inl ⟨k,h.dead⟩
 ·refine .inr ⟨k1,k2,?_⟩
  show(ε.1,cU (aI ε.2 n).2)=_
  rw[I];rfl
end
structure FM (N B ba aB:Nat)(mk:List Nat)(rs:List ct)(B0:Int→List Nat)(g:Int→Option Nat)(F:Nat)(ε:aZ): Prop where
 ok:fD ε
 fs:FS N ba aB mk rs B0 g sM ε
 ei:EI N B (bz ε)
 st:Ah N rs B0 (bz ε)
 gd:uI rs B0
 fo:F≤ε.2.1.forced
def UN (N ba aB:Nat)(mk:List Nat)(rs:List ct)(B0:Int→List Nat)(g:Int→Option Nat)(F:Nat)(e:Int)(ε:aZ): Prop:=e=9∧ε.2.2.dead=true∧sN N ba aB mk rs B0 g F ε.2.2
section
variable {w:List Nat} {g:Int→Option Nat} {n:Int}
theorem FM.next (h:FM N B ba aB mk rs B0 g F ε)(ho:fD ah)(J:ah.2.2.dead=false)(he:EI N B (bz ah))(hp:∀P:VP,mu N P→vw P (bz ε)→vw P (bz ah))(hg:∀m,pgA (bz ah) m=pgA (bz ε) m): FM N B ba aB mk rs B0 g F ah:=by
 obtain⟨I,h2⟩:=h.fs.next J he.ec hp
 exact⟨ho,I,he,fun m h0 I=>by rw[hg];exact h.st m h0 I,h.gd,bT h.fo h2⟩
theorem FM.qh (h:FM N B ba aB mk rs B0 g F ε)(I:GRd ε now false n e b ah): UN N ba aB mk rs B0 g F e ah∨(FM N B ba aB mk rs B0 g F ah∧GRd (bz ε) now false n e b (bz ah)∧∀m,pgA (bz ah) m=pgA (bz ε) m):=by
 rcases I.mE h.fs with⟨k1,k2⟩|⟨k1,k2,k3⟩
 ·have J:=(k2.ec h.ei.ec h.ei.ok.pins).2.1
  exact .inr ⟨h.next (I.jg h.ok) k1 (h.ei.qh k2) (fun P hP hv=>hP.qh k2 h.fs.ec hv) J,k2,J⟩
 ·exact .inl ⟨k1,k2,k3.low h.fo⟩
theorem FM.yu (h:FM N B ba aB mk rs B0 g F ε)(I:nK ε now false n b e bR ah): UN N ba aB mk rs B0 g F e ah∨(FM N B ba aB mk rs B0 g F ah∧nK (bz ε) now false n b e bR (bz ah)∧∀m,pgA (bz ah) m=pgA (bz ε) m):=by
 rcases I.mE h.fs with⟨k1,k2⟩|⟨k1,k2,k3⟩
 ·have J:=(k2.ec h.ei.ec h.ei.ok.pins).2.1
  exact .inr ⟨h.next (I.jg h.ok) k1 (h.ei.yu k2) (fun P hP hv=>hP.yu k2 h.fs.ec hv) J,k2,J⟩
 ·exact .inl ⟨k1,k2,k3.low h.fo⟩
end
def tot : List (List Nat)→Nat
 |[]=>0
 |c::l=>c.length+tot l
theorem E6 {a b:List (List Nat)}: tot (a++b)=tot a+tot b:=by
 induction a<;>grind[tot]
theorem nN : ∀ {cs:List (List Nat)} {i:Nat} {c:List Nat},cs[i]?=some c→tot (cs.take (i+1))=tot (cs.take i)+c.length:=by
 intro cs
 induction cs<;>grind[tot]
theorem Jb (h:i≤j): tot (cs.take i)≤tot (cs.take j):=by
 grind[List.take_append_drop,E6]
theorem oR {cs:List (List Nat)}{i:Nat}: tot (cs.take i)≤tot cs:=by
 grind[E6,List.take_append_drop]
theorem Wm : ∀ {cs:List (List Nat)} {i:Nat} {c c':List Nat},cs[i]?=some c→c'.length=c.length→∀k,tot ((cs.set i c').take k)=tot (cs.take k):=by
 intro cs
 induction cs with
 |nil=>simp
 |cons x cs I =>
  intro i c c' h J k
  cases i with
  |zero =>
   simp at h;subst h
   cases k<;>grind[tot]
  |succ i=>cases k<;>grind[tot]
theorem lq {l m:List Nat}{a i:Nat}(h:a+m.length≤l.length)(hi:i<a∨a+m.length≤i): (bp l a m)[i]?=l[i]?:=by
 grind[xV]
theorem Ak {l m:List Nat}{a i:Nat}(h:a+m.length≤l.length)(hi:i<m.length): (bp l a m)[a+i]?=m[i]?:=by
 grind[xV]
theorem pI {l m:List Nat}{a z:Nat}(h:∀i,a≤i→i<a+z→l[i]?=m[i]?): cO l a z=cO m a z:=by
 unfold cO
 congr 1
 apply tB
 simp_all[D7]
theorem Bp {m:List Nat}{b:Nat}(h:a+m.length≤l.length)(I:b+z≤a∨a+m.length≤b): cO (bp l a m) b z=cO l b z :=
 by grind[pI,lq]
theorem wR {l:List Nat}{a z n:Nat}(h:a+z≤l.length)(I:n<256^z): cO (bp l a (le z n)) a z=n:=by
 have e:((bp l a (le z n)).take (a+z)).drop a=le z n:=by
  apply tB
  simp only[List.getElem?_drop,D7]
  grind[Ak,cR]
 grind[cO,sj,Nat.mod_eq_of_lt]
theorem ql {l m:List Nat}{i:Nat}(h:l[i]?=m[i]?): l.getD i 0=m.getD i 0:=by grind
structure dW (b:List Nat)(k link extra:Nat)(cs:List (List Nat)): Prop where
 len:b.length=512
 Qg:b.getD 13 0=0
 kind:b.getD 12 0=k
 link:cO b 18 4=link
 extra:cO b 22 4=extra
 cY:lF b=cs.length
 low:jz b+tot cs=512
 fits:26+4*cs.length+tot cs≤512
 slot:∀i c,cs[i]?=some c→dU b i+tot (cs.take (i+1))=512∧jF b i=c.length∧∀j,j<c.length→b[dU b i+j]?=c[j]?
theorem Td : ∀(z k:Nat) (t:List Bool),k+z≤t.length→(∀j,k≤j→j<k+z→t.getD j false=false)→∃t',markL z k t=some t'∧t'.length=t.length∧∀j,(j<k∨k+z≤j)→t'.getD j false=t.getD j false:=by
 intro z
 induction z with
 |zero=>intro k t _ _;exact⟨t,rfl,rfl,fun _ _=>rfl⟩
 |succ z I =>
  intro k t J h2
  have hs:∀j,j≠k→(t.set k true).getD j false=t.getD j false:=fun j hj=>by
   grind
  obtain⟨t',e1,e2,e3⟩:=I (k+1) (t.set k true) (by grind) (fun j a b=>by grind)<;>grind[markL]
section
theorem dW.cells (h:dW b k link extra cs): ∀(n i:Nat) (t:List Bool),i+n=cs.length→t.length=512→(∀j,j+tot (cs.take i)<512→t.getD j false=false)→cellsL b (jz b) n i t=true:=by
 intro n
 induction n with
 |zero=>intro i t _ _ _;rfl
 |succ n J =>
  intro i t hi ht hf
  have I:cs[i]?=some (cs[i]'(by omega)):=bA _
  generalize (cs[i]'(by omega))=c at I
  obtain⟨s1,s2,s3⟩:=h.slot i c I
  have h1:=nN I
  have h2:=oR (cs:=cs) (i:=i+1)
  have h3:=h.low
  obtain⟨t',e1,e2,e3⟩:=Td c.length (dU b i) t (by omega) (fun j _ _=>hf j (by omega))
  rw[cellsL,s2,ak (by omega),e1]
  exact J (i+1) t' (by omega) (by omega) (fun j hj=>by grind)
theorem dW.good (h:dW b k link extra cs): bW b=true:=by
 have I:=h.low
 have J:=h.fits
 rw[bW,fL h.len,fL h.Qg,fL (by rw[h.cY];omega),h.cells _ _ _ (by rw[h.cY];omega) dx fun j hj => ?_]
 ·rfl
 grind
theorem dW.tail (h:dW b k link extra cs){I:List Nat}(hl:I.length=512)(ht:I.drop 12=b.drop 12): dW I k link extra cs:=by
 have hg:∀i,12≤i→I[i]?=b[i]?:=fun i hi=>by
  have:=iO (fun l:List Nat=>l[i-12]?) ht
  grind
 have J:∀a z,12≤a→cO I a z=cO b a z:=fun a z q=>xW ht q
 refine⟨hl,?_,?_,?_,?_,?_,?_,h.fits,fun i c hc => ?_⟩
 ·rw[ql (hg 13 (by decide))];exact h.Qg
 ·rw[ql (hg 12 (by decide))];exact h.kind
 ·rw[J _ _ (by decide)];exact h.link
 ·rw[J _ _ (by decide)];exact h.extra
 ·rw[lF,J _ _ (by decide)];exact h.cY
 ·rw[jz,J _ _ (by decide)];exact h.low
 ·obtain⟨s1,s2,s3⟩:=h.slot i c hc
  have e1:dU I i=dU b i:=J _ _ (by omega)
  have e2:jF I i=jF b i:=J _ _ (by omega)
  have fA:=h.fits
  grind[oR]
def pJ (k:Nat): List Nat:=bp ((List.replicate 512 0).set 12 k) 16 (le 2 512)
theorem dW.new : dW (pJ k) k 0 0 []:=by
 have hle:∀n,(le 2 n).length=2:=fun n=>cR 2 n
 have I:∀i,i<16∨18≤i→(pJ k)[i]?=((List.replicate 512 0).set 12 k)[i]?:=fun i hi=>lq (by grind) (by grind)
 have hz:∀i,i≠12→((List.replicate 512 0).set 12 k)[i]?=(List.replicate 512 0)[i]?:=fun i hi=>kL (by omega)
 have J:∀a z,a+z≤512→(18≤a∨(13≤a∧a+z≤16))→cO (pJ k) a z=cO (List.replicate 512 0) a z:=fun a z h1 h2=>pI fun i h3 h4=>by grind
 refine⟨by grind[pJ,cJ],?_,?_,?_,?_,?_,?_,by decide,fun i c hc=>(by grind)⟩
 ·rfl
 ·rfl
 ·rfl
 ·rfl
 ·rfl
 ·rfl
def vL (b:List Nat)(x y:Nat): List Nat:=bp (bp b 18 (le 4 x)) 22 (le 4 y)
theorem dW.set (h:dW b k link extra cs){x y:Nat}(hx:x<4294967296)(hy:y<4294967296): dW (vL b x y) k x y cs:=by
 have hlen:=h.len
 have hle:∀n,(le 4 n).length=4:=fun n=>cR 4 n
 have l1:(bp b 18 (le 4 x)).length=512:=by grind[cJ]
 have l2:(vL b x y).length=512:=by grind[vL,cJ]
 have I:∀i,i<18∨26≤i→(vL b x y)[i]?=b[i]?:=fun i hi=>by
  grind[vL,lq]
 have J:∀a z,a+z≤18∨26≤a→cO (vL b x y) a z=cO b a z:=fun a z h2=>pI fun i h3 h4=>I i (by omega)
 refine⟨l2,?_,?_,?_,?_,?_,?_,h.fits,fun i c hc => ?_⟩
 ·rw[ql (I 13 (by decide))];exact h.Qg
 ·rw[ql (I 12 (by decide))];exact h.kind
 ·grind[vL,Bp,wR]
 ·grind[vL,wR]
 ·rw[lF,J _ _ (by decide)];exact h.cY
 ·rw[jz,J _ _ (by decide)];exact h.low
 ·obtain⟨s1,s2,s3⟩:=h.slot i c hc
  have e1:dU (vL b x y) i=dU b i:=J _ _ (by omega)
  have e2:jF (vL b x y) i=jF b i:=J _ _ (by omega)
  have fA:=h.fits
  grind[oR]
def Al (b:List Nat)(i f z:Nat): List Nat:=bp (bp b (26+4*i) (le 2 f)) (26+4*i+2) (le 2 z)
section
theorem Lw (I:b.length=512)(hi:30+4*i≤512): (Al b i f z).length=512:=by
 grind[cR,Al,cJ]
theorem Lx (I:b.length=512)(hi:30+4*i≤512){j:Nat}(J:j<26+4*i∨30+4*i≤j): (Al b i f z)[j]?=b[j]?:=by
 grind[cR,Al,lq,cJ]
theorem Qh (I:b.length=512)(hi:30+4*i≤512)(J:f<65536)(hz:z<65536): dU (Al b i f z) i=f∧jF (Al b i f z) i=z:=by
 grind[cR,cJ,dU,Al,Bp,wR,jF]
end
def yc (b:List Nat)(n lo:Nat)(c:List Nat): List Nat:=Al (bp (bp (bp b 14 (le 2 (n+1))) lo c) 16 (le 2 lo)) n lo c.length
theorem dW.ins (h:dW b k link extra cs){c:List Nat}{lo:Nat}(hf:26+4*(cs.length+1)+(tot cs+c.length)≤512)(qI:lo+(tot cs+c.length)=512): dW (yc b cs.length lo c) k link extra (cs++[c]):=by
 have hlen:=h.len
 have hle:∀n,(le 2 n).length=2:=fun n=>cR 2 n
 have l1:(bp b 14 (le 2 (cs.length+1))).length=512:=by grind[cJ]
 have l2:(bp (bp b 14 (le 2 (cs.length+1))) lo c).length=512:=by rw[cJ (by omega),l1]
 have l3:(bp (bp (bp b 14 (le 2 (cs.length+1))) lo c) 16 (le 2 lo)).length=512:=by grind[cJ]
 have l4:(yc b cs.length lo c).length=512:=Lw l3 (by omega)
 have o3:∀i,i<16∨18≤i→(bp (bp (bp b 14 (le 2 (cs.length+1))) lo c) 16 (le 2 lo))[i]?=(bp (bp b 14 (le 2 (cs.length+1))) lo c)[i]?:=fun i hi=>lq (by grind) (by grind)
 have o4:∀i,i<26+4*cs.length∨30+4*cs.length≤i→(yc b cs.length lo c)[i]?=(bp (bp (bp b 14 (le 2 (cs.length+1))) lo c) 16 (le 2 lo))[i]?:=fun i hi=>Lx l3 (by omega) hi
 -- what is neither count, low, the slot nor the cell
 have I:∀i,(i<14∨18≤i)→(i<26+4*cs.length∨30+4*cs.length≤i)→(i<lo∨lo+c.length≤i)→(yc b cs.length lo c)[i]?=b[i]?:=fun i h1 h2 h3=>by
  grind[lq]
 have BS:∀a z,(a+z≤14∨18≤a)→a+z≤26+4*cs.length→cO (yc b cs.length lo c) a z=cO b a z:=fun a z h1 h2=>pI fun i h3 h4=>I i (by omega) (by omega) (by omega)
 have j_:dU (yc b cs.length lo c) cs.length=lo∧jF (yc b cs.length lo c) cs.length=c.length:=Qh l3 (by omega) (by omega) (by omega)
 have Y9:tot (cs++[c])=tot cs+c.length:=by rw[E6];simp[tot]
 refine⟨l4,?_,?_,?_,?_,?_,?_,by grind,fun i x J => ?_⟩
 ·rw[ql (I 13 (by omega) (by omega) (by omega))];exact h.Qg
 ·rw[ql (I 12 (by omega) (by omega) (by omega))];exact h.kind
 ·rw[BS _ _ (by omega) (by omega)];exact h.link
 ·rw[BS _ _ (by omega) (by omega)];exact h.extra
 ·have e:cO (yc b cs.length lo c) 14 2=cO (bp b 14 (le 2 (cs.length+1))) 14 2:=pI fun i h1 h2=>by
   grind[lq]
  grind[lF,wR]
 ·have e:cO (yc b cs.length lo c) 16 2=cO (bp (bp (bp b 14 (le 2 (cs.length+1))) lo c) 16 (le 2 lo)) 16 2:=pI fun i h1 h2=>o4 i (by omega)
  grind[jz,wR]
 ·by_cases hi:i<cs.length
  ·rw[qP hi] at J
   obtain⟨s1,s2,s3⟩:=h.slot i x J<;>grind[dU,jF,oR]
  ·have jv:i=cs.length:=by
    grind
   subst jv
   rw[vO (aU _),AP] at J
   have J:c=x:=cx J
   subst J
   rw[j_.1,j_.2,eW (by simp),Y9]
   exact⟨qI,rfl,fun j hj=>by grind[Ak]⟩
def yf (b:List Nat)(i f:Nat)(c:List Nat): List Nat:=Al (bp b f c) i f c.length
theorem dW.rep (h:dW b k link extra cs)(hc:cs[i]?=some c)(hl:c'.length=c.length): dW (yf b i (dU b i) c') k link extra (cs.set i c'):=by
 obtain⟨s1,s2,s3⟩:=h.slot i c hc
 have hlen:=h.len
 have hi:=(List.getElem?_eq_some_iff.1 hc).1
 have zU:=h.low
 have fA:=h.fits
 have Lb:=oR (cs:=cs) (i:=i+1)
 have Qi:=nN hc
 have l1:(bp b (dU b i) c').length=512:=by grind[cJ]
 have l2:(yf b i (dU b i) c').length=512:=Lw l1 (by omega)
 have o2:∀j,j<26+4*i∨30+4*i≤j→(yf b i (dU b i) c')[j]?=(bp b (dU b i) c')[j]?:=fun j hj=>Lx l1 (by omega) hj
 have I:∀j,(j<26+4*i∨30+4*i≤j)→(j<dU b i∨dU b i+c.length≤j)→(yf b i (dU b i) c')[j]?=b[j]?:=fun j h1 h2=>by grind[lq]
 have J:∀a z,(a+z≤26+4*i∨30+4*i≤a)→a+z≤26+4*cs.length→cO (yf b i (dU b i) c') a z=cO b a z:=fun a z h1 h2=>pI fun j h3 h4=>I j (by omega) (by omega)
 have j_:dU (yf b i (dU b i) c') i=dU b i∧jF (yf b i (dU b i) c') i=c'.length:=Qh l1 (by omega) (by omega) (by omega)
 have uS:∀k,tot ((cs.set i c').take k)=tot (cs.take k):=Wm hc hl
 have Y9:tot (cs.set i c')=tot cs:=by
  have:=uS cs.length
  grind[List.length_set]
 refine⟨l2,?_,?_,?_,?_,?_,?_,by grind,fun j x hx => ?_⟩
 ·rw[ql (I 13 (by omega) (by omega))];exact h.Qg
 ·rw[ql (I 12 (by omega) (by omega))];exact h.kind
 ·rw[J _ _ (by omega) (by omega)];exact h.link
 ·rw[J _ _ (by omega) (by omega)];exact h.extra
 ·rw[lF,J _ _ (by omega) (by omega),bY];exact h.cY
 ·grind[jz]
 ·rw[uS]
  by_cases Ft:i=j
  ·subst Ft
   rw[iM hi] at hx
   have hx:c'=x:=cx hx
   subst hx
   rw[j_.1,j_.2]
   exact⟨s1,rfl,fun q hq=>by rw[o2 _ (by omega),Ak (by omega) hq]⟩
  ·rw[kL Ft] at hx
   obtain⟨r1,r2,r3⟩:=h.slot j x hx
   have hj:=(List.getElem?_eq_some_iff.1 hx).1
   have e1:dU (yf b i (dU b i) c') j=dU b j:=J _ _ (by omega) (by omega)
   have e2:jF (yf b i (dU b i) c') j=jF b j:=J _ _ (by omega) (by omega)
   have UK:=nN hx
   have htj:=oR (cs:=cs) (i:=j+1)
   rw[e1,e2]
   refine⟨r1,r2,fun q hq => ?_⟩
   rw[I _ (by omega) ?_]
   ·grind
   ·rcases Nat.lt_or_gt_of_ne Ft with q1|q1
    ·have:=Jb (cs:=cs) (i:=i+1) (j:=j) (by omega);omega
    ·have:=Jb (cs:=cs) (i:=j+1) (j:=i) (by omega);omega
theorem dW.cell (h:dW b k link extra cs)(I:cs[i]?=some c): (b.drop (dU b i)).take c.length=c:=by
 obtain⟨s1,s2,J⟩:=h.slot i c I
 apply tB
 grind
end
section
variable {v w:V} {m:List Nat}
theorem Jc {b:Nat}{cap:Cap}(oH:a≤b)(hb:b≤n): ∃off I,slR (.sl id 0 n cap) a b=.sl id off (b-a) I∧off≤n:=by
 cases cap with
 |exact c =>
  simp only[slR]
  by_cases J:c=a
  ·rw[qq J,aj];exact⟨0,_,rfl,fX _⟩
  ·rw[eD J,a_];exact⟨0+a*1,_,rfl,by omega⟩
 |rest e alt=>exact⟨0+a*1,_,rfl,by omega⟩
theorem Lz {cs:List V}(I:T.get h.tr id=some (.cells n cs false))(ho:off≤n)(hl:cs.length=n): wrN h id off []=some (h.put id (some (.cells n cs false))):=by
 simp only[wrN,I,cI]
 rw[bg.2 (by omega),aj]
 congr 3
 cases J:(Nat.beq off 0&&Nat.beq 0 n) with
 |true =>
  simp only[bK,beq_iff] at J
  rw[aj]
  rw[pK (by omega:cs.length=0)]
 |false=>rw[a_,eB,m9,List.take_append_drop]
theorem Qj (s:Sat h (aV v l::X::S))(hX:cQ X (cW w m)){b:Nat}(oH:a≤b)(hb:b≤l.length)(hl:1≤l.length):
  ∃h',copyV Tryz.prog h 28 (slR v a b) w=some (.int .i64 (min m.length (b-a):Nat),h')∧Sat h' (aV v (bp l a (m.take (b-a)))::X::S):=by
 by_cases h1:a<b∧1≤m.length
 ·exact Ca s hX h1.1 hb h1.2
 ·have hm:min m.length (b-a)=0:=by omega
  have ht:m.take (b-a)=[]:=pK (by rw[gI];omega)
  have Gh:bp l a (m.take (b-a))=l:=by rw[ht,bp];simp
  have hw:=(s.aH (k:=1) rfl hX).2
  have hv:=(s.buf (k:=0) rfl).view
  obtain⟨id,c,cap,rest,rfl,s1,hc,hf⟩:=s.fZ hl
  obtain⟨off,L0,e1,e2⟩:=Jc (id:=id) (cap:=cap) oH hb
  rw[e1,Gh,hm]
  have hg:=s1.row (k:=0) rfl
  have u6:=Lz (off:=off) hg (by omega) (by rw[bO,dS];exact hc)
  have J:Sat (h.put id (some (.cells c (ofBytes l++rest) false))) (aV (.sl id 0 l.length cap) l::X::S):=hf _ _ rfl hv.1 (s1.put (k:=0) rfl)
  rcases hw with⟨rfl|⟨x,rfl⟩,_⟩|⟨iR,I,HP,n2,FJ,Yd,rfl,HQ,q1,q2,q3,q4⟩
  ·exact⟨h,by simp only[copyV,aT,eE];rfl,s⟩
  ·exact⟨h,by simp only[copyV,aT,eE];rfl,s⟩
  ·refine⟨_,?_,J⟩
   have hr:rdN h iR I 0=some []:=by
    simp only[rdN,HQ,m9]
    rw[bg.2 (by omega),aj]
    cases hq:(Nat.beq I 0&&Nat.beq 0 n2) with
    |true =>
     simp only[bK,beq_iff] at hq
     rw[aj,pK (by omega:FJ.length=0)]
    |false=>rw[a_,AM]
   simp only[copyV,aT,eE]
   rw[show Nat.min m.length (b-a)=0 from hm,qT,hr]
   simp only
   rw[u6]
theorem Qk (s:Sat h (aV v l::S)){b:Nat}(ha:a≤l.length)(hb:b≤l.length)(hl:1≤l.length):
  ∃h',copyV Tryz.prog h 28 (slR v a a) (slR v b b)=some (.int .i64 0,h')∧Sat h' (aV v l::S):=by
 have hv:=(s.buf (k:=0) rfl).view
 obtain⟨id,c,cap,rest,rfl,s1,hc,hf⟩:=s.fZ hl
 obtain⟨off,L0,e1,e2⟩:=Jc (id:=id) (cap:=cap) (aU _) ha
 obtain⟨I,HP,e3,e4⟩:=Jc (id:=id) (cap:=cap) (aU _) hb
 rw[e1,e3]
 have hg:=s1.row (k:=0) rfl
 have hle:(ofBytes l++rest).length=c:=by rw[bO,dS];exact hc
 have J:=Lz (off:=off) hg (by omega) hle
 refine⟨_,?_,hf _ _ rfl hv.1 (s1.put (k:=0) rfl)⟩
 have hr:rdN h id I 0=some []:=by
  simp only[rdN,hg,m9]
  rw[bg.2 (by omega),aj]
  cases hq:(Nat.beq I 0&&Nat.beq 0 c) with
  |true =>
   simp only[bK,beq_iff] at hq
   rw[aj,pK (by omega:(ofBytes l++rest).length=0)]
  |false=>rw[a_,AM]
 simp only[copyV,aT,eE,AP]
 rw[show Nat.min 0 0=0 from rfl,qT,hr]
 simp only
 rw[J]
 rfl
end
section
variable {o:Oper} {v:V} {m:List Nat} {cl:Go.Call}
theorem OpR.UO {b:Nat}(hP:C.P=Tryz.prog)(s:Sat h (aV v l::X::S))(hX:cQ X (cW u m))(I:o.op=.call cl)(hc:cl.callee=.builtin .copy)(J:cl.argTypes = #[28,28])(ha:lookArgs E cl.args.toList=some [slR v a b,u])
 (oH:a≤b)(hb:b≤l.length)(hl:1≤l.length): OpR C E h o fun _ h₁=>Sat h₁ (aV v (bp l a (m.take (b-a)))::X::S):=by
 obtain⟨h₁,e1,e2⟩:=Qj s hX oH hb hl
 refine OpR.builtin I hc ha ⟨.int .i64 (min m.length (b-a):Nat),h₁,?_,e2⟩
 simp only[builtinV,hP,J,e1]
theorem OpR.aaE {b:Nat}(hP:C.P=Tryz.prog)(s:Sat h (aV v l::S))(I:o.op=.call cl)(hc:cl.callee=.builtin .copy)(J:cl.argTypes = #[28,28])(hx:lookArgs E cl.args.toList=some [slR v a a,slR v b b])
 (ha:a≤l.length)(hb:b≤l.length)(hl:1≤l.length): OpR C E h o fun _ h₁=>Sat h₁ (aV v l::S):=by
 obtain⟨h₁,e1,e2⟩:=Qk s ha hb hl
 refine OpR.builtin I hc hx ⟨.int .i64 0,h₁,?_,e2⟩
 simp only[builtinV,hP,J,e1]
end
section
variable {told:dc} {v:V} {kd:Nat}
theorem DS (I:W told)(s:Sat h (aV v b::S))(hl:b.length=512)(hi:30+4*i≤512)(hf:f<65536)(hz:z<65536):
  Call ⟨Tryz.prog,told⟩ 158 [.agg [v],.int .i64 (i:Int),.int .i64 (f:Int),.int .i64 (z:Int)] h fun r h'=>r=.bf []∧Sat h' (aV v (Al b i f z)::S):=by
 have hle:∀n,(le 2 n).length=2:=fun n=>cR 2 n
 have l1:(bp b (26+4*i) (le 2 f)).length=512:=by rw[cJ (by rw[hle];omega),hl]
 obtain⟨qM,_,cap,_,rfl,_⟩:=s.fZ (by omega)
 have J:(26:Int)+4*(i:Int)=((26+4*i:Nat):Int):=by omega
 have e2:(26:Int)+4*(i:Int)+2=((26+4*i+2:Nat):Int):=by omega
 refine Call.of_wp (I.free _ rfl) Tryz.func158 rfl rfl (zg rfl ?_)
 refine ay.b8 s rfl rfl rfl (fg rfl rfl) (fun p4 h s => ?_)
 refine zk 4 rfl (zb rfl (by exact jT (aA (by omega) (by omega))) ?_)
 refine zb rfl (by exact bx (aA (by omega) (by omega))) ?_
 refine zk 4 rfl (zl rfl (s.bZ (k:=0) rfl cH bQ) (zk 2 rfl (zo rfl (b6 rfl (by exact ja bF cM (fK (by omega) (by omega)))) ?_)))
 rw[J]
 refine zc rfl (qz (a:=26+4*i) (z:=2) (n:=f) I (s.ae [1]) (by decide) (by decide) (by omega) (by omega)) ?_
 rintro r h ⟨rfl,s⟩
 have s:=s.ae [1,0]
 refine zk 2 rfl (zl rfl (s.bZ (k:=0) rfl cH bQ) (zm rfl (zo rfl (az (r:=.int .i64 ((26+4*i+2:Nat):Int)) rfl rfl (by rw[←e2,←J];exact bx (aA (by omega) (by omega)))) ?_)))
 refine zm rfl (zo rfl (b6 rfl (by exact ja bF cM (fK (by omega) (by omega)))) ?_)
 refine zc rfl (qz (a:=26+4*i+2) (z:=2) (n:=z) I (s.ae [1]) (by decide) (by decide) (by omega) (by omega)) ?_
 rintro r h ⟨rfl,s⟩
 exact zv ⟨aa,_,rfl,rfl,s.del 1⟩
theorem E7 (hT:W told)(s:Sat h S)(hk:getA S k=some X)(hX:cQ X (cW v b))(J:dW b kd link extra cs)(hc:cs[i]?=some c):
  Call ⟨Tryz.prog,told⟩ 157 [.agg [v],.int .i64 (i:Int)] h fun r h'=>∃f,r=slR3 v f (f+c.length) (f+c.length)∧cQ X (cW r c)∧Sat h' S:=by
 have hv:=s.aH hk hX
 have hl:=J.len
 have hi:=(List.getElem?_eq_some_iff.1 hc).1
 have fA:=J.fits
 have zU:=J.low
 obtain⟨s1,s2,s3⟩:=J.slot i c hc
 have Lb:=oR (cs:=cs) (i:=i+1)
 have Qi:=nN hc
 have I:=J.cell hc
 generalize hf:dU b i=f at s1 s3 I
 obtain⟨pi,po,pc,rfl⟩:=iS hv (by omega)
 refine Call.of_wp (hT.free _ rfl) Tryz.func157 rfl rfl (zg rfl ?_)
 refine ay.b8 s rfl rfl rfl (fg rfl rfl) (fun p2 h s => ?_)
 refine zk 4 rfl (zl rfl (s.bZ (k:=0) rfl cH bQ) (zm rfl (zc rfl (Bg hT s (nf hk) hX hl (by omega)) ?_)))
 rintro r h' ⟨rfl,s⟩
 rw[hf,s2]
 refine zk 8 rfl (zY s 0 iy bP rfl (zk 3 rfl (zb rfl (by exact bx (aA (by omega) (by omega))) ?_)))
 refine zk 2 rfl (zb rfl (by exact bx (aA (by omega) (by omega))) ?_)
 have e1:(f:Int)+(c.length:Int)=((f+c.length:Nat):Int):=by omega
 have j_:=BL (s.aH (nf hk) hX) (a:=f) (b:=f+c.length) (c:=f+c.length) (by omega) (aU _) (by omega) (by omega)
 rw[e1]
 refine zo rfl (bV (p:=some (.int .i64 (f:Int))) (q:=some (.int .i64 ((f+c.length:Nat):Int))) (m:=some (.int .i64 ((f+c.length:Nat):Int))) (p':=some f) (q':=some (f+c.length)) (m':=some (f+c.length)) rfl rfl rfl rfl (by rw[ey (by omega)];rfl) (by rw[ey (by omega)];rfl) (by rw[ey (by omega)];rfl) j_) ?_
 refine zk 2 rfl (WP.ret ⟨aa,_,rfl,?_⟩)
 refine⟨f,rfl,?_,s.drop⟩
 have:=FL hX (a:=f) (b:=f+c.length) (c:=f+c.length) (by omega) (aU _) (by omega) (by omega)
 rw[El,show f+c.length-f=c.length by omega,I] at this
 exact this
theorem Wn (J:W told)(s:Sat h S)(hk:getA S k=some X)(hX:cQ X (cW v b))(I:dW b kd link extra cs):
  Call ⟨Tryz.prog,told⟩ 103 [.agg [v]] h fun r h'=>r=.int .i64 (486-(4*(cs.length:Int)+(tot cs:Int)))∧Sat h' S:=by
 have hv:=s.aH hk hX
 have hl:=I.len
 have fA:=I.fits
 have zU:=I.low
 obtain⟨pi,po,pc,rfl⟩:=iS hv (by omega)
 refine Call.of_wp (J.free _ rfl) Tryz.func103 rfl rfl (zg rfl ?_)
 refine ay.b8 s rfl rfl rfl (fg rfl rfl) (fun p1 h s => ?_)
 refine zk 3 rfl ?_
 have s0:=s
 refine WP.drawn [none,none,some (1,2),some (0,2),af,af,af,af] rfl (by kernel_rfl) (by kernel_rfl) ?_
 refine zL rfl (s.bZ (k:=0) rfl cH bQ) (ax.any rfl rfl rfl rfl (OpR.call rfl rfl rfl rfl (H9 J s (nf hk) hX hl)) ?_)
 rintro r h' ⟨rfl,s⟩
 have s1:=s
 refine zO rfl (az rfl rfl (by exact iX (aA (by omega) (by omega)))) ?_
 refine zL rfl (s.bZ (k:=0) rfl cH bQ) (ax.any rfl rfl rfl rfl (OpR.call rfl rfl rfl rfl (lG J s (nf hk) hX hl)) ?_)
 rintro r h' ⟨rfl,s⟩
 rw[I.cY]
 refine zO rfl (az rfl rfl (by exact jT (aA (by omega) (by omega)))) ?_
 refine zO rfl (az rfl rfl (by exact iX (aA (by omega) (by omega)))) ?_
 refine zA rfl ?_
 refine ax.nil ⟨⟨aa,aa,fun _ _=>.inr ⟨rfl,⟨_,az rfl rfl (by exact iX (aA (by omega) (by omega)))⟩,bn _ rfl⟩,dw (.inr ⟨rfl,⟨_,aW rfl (s0.bZ (k:=0) rfl cH bQ)⟩,bn _ rfl⟩) (.inr ⟨rfl,⟨_,aW rfl (s1.bZ (k:=0) rfl cH bQ)⟩,bn _ rfl⟩),aa,aa,aa,aa,aa⟩,?_⟩
 refine WP.ret ⟨aa,_,rfl,?_⟩
 exact⟨iO (V.int .i64) (by omega),s.drop⟩
noncomputable def pfL : Code:=cD [1,1,0,1,0,0] ((Tryz.f102.body).getD .skip)
theorem Nn (hT:W told)(hX:cQ X (cW x b))(CT:x.cells=[x])(J:dW b kd link extra cs): ∀(m i:Nat) (h:H) (E:List (Nat×V)) (Q:Ex→List (Nat×V)→H→Prop),i+m=cs.length →
  Sat h (pt p1 (.cells 1 [x] false)::X::S)→Has E [(1,.ptr p1 0),(3,.int .i64 (486-(4*(cs.length:Int)+(tot (cs.take i):Int)))),(12,.int .i64 (cs.length:Int)),(13,.int .i64 (i:Int))] →
  (∀E' h',Has E' [(3,.int .i64 (486-(4*(cs.length:Int)+(tot cs:Int))))]→Sat h' (pt p1 (.cells 1 [x] false)::X::S)→Q (.exit 0) E' h')→WP ⟨Tryz.prog,told⟩ 27 (.loop pfL) E h Q:=by
 have hl:=J.len
 have fA:=J.fits
 intro m
 induction m with
 |zero =>
  intro i h E Q hi s hE hq
  refine WP.loop (WP.has hE (zg rfl (zC rfl aN (by simp<;>omega) ?_)))
  refine zk 3 rfl (WP.exit ?_)
  refine hq _ _ ⟨?_,aa⟩ s
  rw[show cs.take i=cs from eW (by omega)]
  rfl
 |succ m ih =>
  intro i h E Q hi s hE hq
  have I:cs[i]?=some (cs[i]'(by omega)):=bA _
  generalize (cs[i]'(by omega))=c at I
  obtain⟨s1,s2,s3⟩:=J.slot i c I
  have Lb:=oR (cs:=cs) (i:=i+1)
  have Qi:=nN I
  refine WP.loop (WP.has hE (zg rfl (zB rfl aN (by simp<;>omega) ?_)))
  refine zk 5 rfl (WP.block (zK 7 rfl (zl rfl (s.bZ (k:=0) rfl cH bQ) (zm rfl (zc rfl (Bg hT (i:=i) s (k:=1) rfl hX hl (by omega)) ?_)))))
  rintro r h' ⟨rfl,s⟩
  rw[s2]
  refine zk 9 rfl (zb rfl (by exact iX (aA (by omega) (by omega))) ?_)
  refine za rfl (zv (zr rfl (zb rfl (by exact bx (aA (by omega) (by omega))) ?_)))
  refine zm rfl (zv ?_)
  refine ih (i+1) _ _ Q (by omega) s ⟨rfl,?_,rfl,rfl,aa⟩ hq
  exact iO (fun z=>some (V.int .i64 z)) (by omega)
theorem Te (J:W told)(s:Sat h (X::S))(hX:cQ X (cW v b))(I:dW b kd link extra cs):
  Call ⟨Tryz.prog,told⟩ 102 [.agg [v]] h fun r h'=>r=.int .i64 (486-(4*(cs.length:Int)+(tot cs:Int)))∧Sat h' (X::S):=by
 have hv:=s.aH (k:=0) rfl hX
 have hl:=I.len
 have fA:=I.fits
 obtain⟨pi,po,pc,rfl⟩:=iS hv (by omega)
 refine Call.of_wp (J.free _ rfl) Tryz.func102 rfl rfl (zg rfl ?_)
 refine ay.b8 s rfl rfl rfl (fg rfl rfl) (fun p1 h s => ?_)
 refine zk 4 rfl (zl rfl (s.bZ (k:=0) rfl cH bQ) (zc rfl (lG J s (k:=1) rfl hX hl) ?_))
 rintro r h' ⟨rfl,s⟩
 rw[I.cY]
 refine zb rfl (by exact jT (aA (by omega) (by omega))) ?_
 refine zb rfl (by exact iX (aA (by omega) (by omega))) ?_
 refine zk 5 rfl (zl rfl (s.bZ (k:=0) rfl cH bQ) (zc rfl (lG J s (k:=1) rfl hX hl) ?_))
 rintro r h' ⟨rfl,s⟩
 rw[I.cY]
 refine zk 2 rfl (WP.block ?_)
 refine Nn J hX rfl I cs.length 0 _ _ _ (by omega) s ⟨rfl,?_,rfl,rfl,aa⟩ (fun E' h' hE s' => ?_)
 ·exact iO (fun z=>some (V.int .i64 z)) (by have:tot (cs.take 0)=0:=rfl;omega)
 have s:=s'
 exact WP.has hE (zK 5 rfl (WP.ret ⟨aa,_,rfl,rfl,s.del 0⟩))
theorem Tf (I:W told)(s:Sat h (aV v b::X::S))(J:cQ X (cW x c))(hl:b.length=512)(hi:30+4*i≤512)(qI:jz b=lo+c.length)(ac7:lo+c.length≤512):
  Call ⟨Tryz.prog,told⟩ 105 [.agg [v],.int .i64 (i:Int),x] h fun r h'=>r=.bf []∧Sat h' (aV v (Al (bp (bp b lo c) 16 (le 2 lo)) i lo c.length)::X::S):=by
 have hle:∀n,(le 2 n).length=2:=fun n=>cR 2 n
 have l1:(bp b lo c).length=512:=by rw[cJ (by omega),hl]
 have l2:(bp (bp b lo c) 16 (le 2 lo)).length=512:=by rw[cJ (by rw[hle];omega),l1]
 obtain⟨qM,_,cap,_,rfl,_⟩:=s.fZ (by omega)
 have hxv:=s.aH (k:=1) rfl J
 have hx:=hxv.cells
 refine Call.of_wp (I.free _ rfl) Tryz.func105 rfl rfl (zg rfl ?_)
 refine ay.b8 s rfl rfl rfl (fg rfl rfl) (fun p3 h s => ?_)
 refine zk 3 rfl (zl rfl (s.bZ (k:=0) rfl cH bQ) (zc rfl (H9 I s (k:=1) rfl (bu _ _) hl) ?_))
 rintro r h' ⟨rfl,s⟩
 rw[qI]
 refine zm rfl (zo rfl (aP rfl rfl rfl (bj aT (s.aH (k:=2) rfl J))) (zo rfl (az (r:=.int .i64 (lo:Int)) rfl rfl (by rw[show((lo:Nat):Int)=((lo+c.length:Nat):Int)-(c.length:Int) by omega];exact iX (aA (by omega) (by omega)))) ?_))
 refine zk 4 rfl (zY s 0 iy bP rfl (zm rfl ?_))
 have j_:=cf (s.aH (k:=1) rfl (bu _ _)) (a:=lo) (by omega)
 refine zo rfl (bV (p:=some (.int .i64 (lo:Int))) (q:=none) (m:=none) (p':=some lo) (q':=none) (m':=none) rfl rfl rfl rfl (by rw[ey (by omega)];rfl) rfl rfl j_.1) ?_
 refine zm rfl (ay.any rfl rfl rfl (OpR.UO rfl (s.ae [1,1]) J rfl rfl rfl rfl (by omega) (aU _) (by omega)) ?_)
 intro r h s
 rw[eW (by omega)] at s
 have s:=s.ae [2,0,0]
 refine zk 3 rfl (zl rfl (s.bZ (k:=0) rfl cH bQ) (zm rfl (zo rfl (b6 rfl (by exact ja bF cM (fK (by omega) (by omega)))) ?_)))
 refine zc rfl (qz (a:=16) (z:=2) (n:=lo) I (s.ae [1]) (by decide) (by decide) (by omega) (by omega)) ?_
 rintro r h ⟨rfl,s⟩
 have s:=s.ae [1,0,0]
 refine zk 2 rfl (zl rfl (s.bZ (k:=0) rfl cH bQ) (zk 3 rfl (zo rfl (aP rfl rfl rfl (bj aT (s.aH (k:=2) rfl J))) (zc rfl (DS (i:=i) (f:=lo) (z:=c.length) I (s.ae [1]) l2 hi (by omega) (by omega)) ?_))))
 rintro r h ⟨rfl,s⟩
 exact zv ⟨aa,_,rfl,rfl,s.del 1⟩
end
section
variable {told:dc} {v:V} {kd:Nat}
theorem Gi (J:W told)(s:Sat h S)(UH:kd≤255):
  Call ⟨Tryz.prog,told⟩ 46 [.int .i64 (kd:Int)] h fun r h'=>∃u,r=.bf [u,.int .i64 0]∧Sat h' (aV u (pJ kd)::S):=by
 refine Call.of_wp (J.free _ rfl) Tryz.func46 rfl rfl (zK 9 rfl (zC rfl aN (by simp) ?_))
 refine zk 2 rfl (zC rfl gT (by simp;omega) ?_)
 refine zk 6 rfl (ay.any rfl rfl rfl (OpR.gN rfl s rfl rfl rfl rfl (by decide)) ?_)
 intro u h s
 have hl:(List.replicate 512 0).length=512:=dx
 have hn:pJ kd=bp ((List.replicate 512 0).set 12 kd) 16 (le 2 512):=rfl
 generalize List.replicate 512 0=l at hl hn s
 obtain⟨qM,_,cap,_,rfl,_⟩:=s.fZ (by omega)
 refine zo rfl (dn rfl (by rw[A_];rfl)) ?_
 refine ay.b8 s rfl rfl rfl (bU j7) (fun p4 h s => ?_)
 refine zS rfl (s.ep (j:=0) rfl bQ rfl rfl) (fun h s => ?_)
 refine zk 3 rfl (zY s 0 iy bP rfl (zm rfl (zo rfl (b6 rfl (by exact ja bF Tryz.underlying5 (y7 (by omega) (by omega)))) ?_)))
 have s:=s.ae [1,0]
 obtain⟨iR,I,e3,h2,e4,s2⟩:=lD s (i:=12) (b:=kd) (by omega) (by omega)
 have js:(l.set 12 kd).length=512:=by rw[bY,hl]
 refine zo rfl (cj (r:=.ptr iR I) rfl rfl e3) (zS rfl (⟨h2,e4,s2⟩) ?_)
 rintro h s
 have s:=s.ae [1,0]
 refine zk 3 rfl (zl rfl (s.bZ (k:=0) rfl cH bQ) (zc rfl (qz (a:=16) (z:=2) (n:=512) J (s.ae [1]) (by decide) (by decide) (by omega) (by omega)) ?_))
 rintro r h ⟨rfl,s⟩
 have s:=s.ae [1,0]
 refine zk 3 rfl (zY s 0 iy bP rfl (zk 3 rfl (WP.ret ⟨aa,_,rfl,?_⟩)))
 refine⟨_,rfl,?_⟩
 rw[hn]
 exact s.drop
theorem Tg (J:W told)(s:Sat h S)(I:kd≤255):
  Call ⟨Tryz.prog,told⟩ 46 [.int .i64 (kd:Int)] h fun r h'=>∃u b,r=.bf [u,.int .i64 0]∧dW b kd 0 0 []∧Sat h' (aV u b::S) :=
 (Gi J s I).mono fun r h' ⟨u,e,s⟩=>⟨u,_,e,dW.new (k:=kd),s⟩
theorem Wo (I:W told){ex:Nat}(s:Sat h (X::S))(hX:cQ X (cW v b))(J:dW b kd link extra cs)(Y_:lk<4294967296)(hex:ex<4294967296):
  Call ⟨Tryz.prog,told⟩ 47 [v,.int .i64 (lk:Int),.int .i64 (ex:Int)] h fun r h'=>∃u b',r=.bf [u,.int .i64 0]∧dW b' kd lk ex cs∧Sat h' (aV u b'::X::S):=by
 have hl:=J.len
 have hle:∀n,(le 4 n).length=4:=fun n=>cR 4 n
 have l1:(bp b 18 (le 4 lk)).length=512:=by rw[cJ (by rw[hle];omega),hl]
 refine Call.of_wp (I.free _ rfl) Tryz.func47 rfl rfl (zK 8 rfl (zc rfl (vb I s hX (by omega)) ?_))
 rintro r h' (⟨hg,u,rfl,s⟩|⟨hg,rfl,s⟩)
 ·obtain⟨qM,_,cap,_,rfl,_⟩:=s.fZ (by omega)
  refine zk 3 rfl ?_
  refine ay.b8 s rfl rfl rfl (bU j7) (fun p8 h s => ?_)
  dsimp only[V.cells,List.length_cons,List.length_nil,Nat.reduceAdd] at s
  refine zS rfl (s.ep (j:=0) rfl bQ rfl rfl) (fun h s => ?_)
  dsimp only[setA] at s
  refine zk 3 rfl (WP.block (zK 3 rfl (zC rfl aD (rfl) (zk 6 rfl (zC rfl aN (by simp) ?_)))))
  refine zk 2 rfl (zC rfl gT (by simp;omega) ?_)
  refine zk 3 rfl (zC rfl aN (by simp) ?_)
  refine zk 3 rfl (zC rfl gT (by simp;omega) ?_)
  refine zk 2 rfl (zv (zj rfl (WP.skip (zg rfl (zl rfl (by exact s.bZ (k:=0) rfl cH bQ) ?_)))))
  refine zm rfl (zo rfl (b6 rfl (by exact ja bF cM (fK (by omega) (by omega)))) ?_)
  refine zc rfl (qz (a:=18) (z:=4) (n:=lk) I (s.ae [1]) (by decide) (by decide) (by omega) (by omega)) ?_
  rintro r h' ⟨rfl,s⟩
  have s:=s.ae [1,0]
  refine zk 3 rfl (zl rfl (s.bZ (k:=0) rfl cH bQ) (zm rfl (zo rfl (b6 rfl (by exact ja bF cM (fK (by omega) (by omega)))) ?_)))
  refine zc rfl (qz (a:=22) (z:=4) (n:=ex) I (s.ae [1]) (by decide) (by decide) (by omega) (by omega)) ?_
  rintro r h' ⟨rfl,s⟩
  have s:=s.ae [1,0]
  exact zk 3 rfl (zY s 0 iy bP rfl (zk 3 rfl (WP.ret ⟨aa,_,rfl,_,_,rfl,J.set Y_ hex,s.drop⟩)))
 ·rw[J.good] at hg;cases hg
theorem An (J:W told)(s:Sat h (X::S))(I:cQ X (cW v l))(hl:l.length<1073741824):
  Call ⟨Tryz.prog,told⟩ 160 [v] h fun r h'=>Sat h' (aV r l::X::S):=by
 have hv:=s.aH (k:=0) rfl I
 refine Call.of_wp (J.free _ rfl) Tryz.func160 rfl rfl (zK 7 rfl (zo rfl (aP rfl rfl rfl (bj aT (s.aH (k:=0) rfl I))) (ay.any rfl rfl rfl (OpR.um rfl s rfl rfl rfl rfl (by omega)) ?_)))
 intro u h s
 refine zm rfl (ay.any rfl rfl rfl (OpR.qy rfl s I rfl rfl rfl rfl (by simp;omega)) ?_)
 intro u2 h s
 rw[eB] at s
 exact zk 2 rfl (WP.ret ⟨aa,_,rfl,s⟩)
theorem Th (I:W told)(s:Sat h (X::S))(hX:cQ X (cW v b))(J:dW b kd link extra cs)(hc:cs[i]?=some c):
  Call ⟨Tryz.prog,told⟩ 111 [v,.int .i64 (i:Int)] h fun r h'=>∃u,r=.bf [u,.int .i64 0]∧Sat h' (aV u c::X::S):=by
 have hl:=J.len
 have hv:=s.aH (k:=0) rfl hX
 have hi:=(List.getElem?_eq_some_iff.1 hc).1
 have fA:=J.fits
 have Lb:=oR (cs:=cs) (i:=i+1)
 have Qi:=nN hc
 obtain⟨pi,po,pc,rfl⟩:=iS hv (by omega)
 refine Call.of_wp (I.free _ rfl) Tryz.func111 rfl rfl (zK 8 rfl (zc rfl (uw I s hX (by omega)) ?_))
 rintro r h' ⟨s,(⟨hg,rfl⟩|⟨hg,rfl⟩)⟩
 ·refine ay.op rfl rfl rfl (bD rfl) ?_
  refine zk 2 rfl ?_
  refine ay.b8 s rfl rfl rfl (bU j7) (fun p6 h s => ?_)
  dsimp only[V.cells,List.length_cons,List.length_nil,Nat.reduceAdd] at s
  refine zS rfl (s.ep (j:=0) rfl bQ rfl rfl) (fun h s => ?_)
  dsimp only[setA] at s
  refine zk 3 rfl (WP.block (zK 3 rfl (zC rfl aD (rfl) (zk 6 rfl (zC rfl aN (by simp) ?_)))))
  refine zk 2 rfl (zl rfl (s.bZ (k:=0) rfl cH bQ) (zc rfl (lG I s (k:=1) rfl hX hl) ?_))
  rintro r h' ⟨rfl,s⟩
  rw[J.cY]
  refine zC rfl jJ (by simp;omega) ?_
  refine zk 2 rfl (zv (zj rfl (WP.skip (zg rfl (zl rfl (by exact s.bZ (k:=0) rfl cH bQ) ?_)))))
  refine zm rfl (zc rfl (E7 (i:=i) I s (k:=1) rfl hX J hc) ?_)
  rintro r h' ⟨f,rfl,hr,s⟩
  refine zc rfl (An I (s.ae [1]) hr (by omega)) ?_
  intro u h s
  exact zk 3 rfl (WP.ret ⟨aa,_,rfl,_,rfl,s.del 2⟩)
 ·rw[J.good] at hg;cases hg
end
theorem Ti : ∃i,Tryz.prog.info? 28=some i∧i.size=1∧i.bytes=24 :=
 ⟨_,(show Tryz.prog.info? 28=some ((Tryz.prog.info? 28).getD default) by kernel_rfl),by kernel_rfl,by kernel_rfl⟩
section
variable {told:dc} {v:V} {kd:Nat}
theorem Wp (I:W told)(s:Sat h (X::Y::S))(hX:cQ X (cW v b))(hY:cQ Y (cW x c))(hp:dW b kd link extra cs)(hf:26+4*(cs.length+1)+(tot cs+c.length)≤512):
  Call ⟨Tryz.prog,told⟩ 48 [v,.int .i64 (cs.length:Int),x] h fun r h'=>∃u b',r=.bf [u,.int .i64 0]∧dW b' kd link extra (cs++[c])∧Sat h' (aV u b'::X::Y::S):=by
 have hl:=hp.len
 have zU:=hp.low
 have hle:∀n,(le 2 n).length=2:=fun n=>cR 2 n
 generalize hn:cs.length=n at hf
 have J:=hp.cY
 have qI:∃lo,lo+(tot cs+c.length)=512:=⟨512-(tot cs+c.length),by omega⟩
 obtain⟨lo,qI⟩:=qI
 have l1:(bp b 14 (le 2 (n+1))).length=512:=by grind[cJ]
 have js:jz (bp b 14 (le 2 (n+1)))=lo+c.length:=by
  grind[jz,Bp]
 refine Call.of_wp (I.free _ rfl) Tryz.func48 rfl rfl (zK 8 rfl (zc rfl (vb I s hX (by omega)) ?_))
 rintro r h' (⟨hg,u,rfl,s⟩|⟨hg,rfl,s⟩)
 ·obtain⟨qM,_,cap,_,rfl,_⟩:=s.fZ (by omega)
  refine zk 3 rfl ?_
  refine ay.b8 s rfl rfl rfl (bU j7) (fun p8 h s => ?_)
  dsimp only[V.cells,List.length_cons,List.length_nil,Nat.reduceAdd] at s
  refine zS rfl (s.ep (j:=0) rfl bQ rfl rfl) (fun h s => ?_)
  dsimp only[setA] at s
  refine zk 3 rfl (WP.block (zK 3 rfl (zC rfl aD (rfl) (zk 6 rfl (zC rfl aN (by simp) ?_)))))
  refine zk 2 rfl (zl rfl (s.bZ (k:=0) rfl cH bQ) (zc rfl (lG I s (k:=1) rfl (bu _ _) hl) ?_))
  rintro r h' ⟨rfl,s⟩
  rw[J,hn]
  refine zC rfl gT (by simp) ?_
  refine zk 6 rfl (zl rfl (s.bZ (k:=0) rfl cH bQ) (zc rfl (Te I (s.ae [1]) (bu _ _) hp) ?_))
  rintro r h' ⟨rfl,s⟩
  have s:=s.ae [1,0]
  dsimp only[aL,bringA,getA] at s
  rw[hn]
  refine zm rfl (zo rfl (aP rfl rfl rfl (bj aT (s.aH (k:=3) rfl hY))) (zb rfl (by exact bx (aA (by omega) (by omega))) ?_))
  refine zC rfl aN (by grind) ?_
  refine za rfl (zv (zj rfl (WP.skip (zw (zg rfl (zl rfl (by exact s.bZ (k:=0) rfl cH bQ) ?_))))))
  refine zc rfl (Wn I s (k:=1) rfl (bu _ _) hp) ?_
  rintro r h' ⟨rfl,s⟩
  rw[hn]
  refine zm rfl (zo rfl (aP rfl rfl rfl (bj aT (s.aH (k:=3) rfl hY))) (zb rfl (by exact bx (aA (by omega) (by omega))) ?_))
  refine zC rfl aN (by grind) ?_
  refine zv (zj rfl (WP.skip (zg rfl (zl rfl (by exact s.bZ (k:=0) rfl cH bQ) ?_))))
  refine zc rfl (lG I s (k:=1) rfl (bu _ _) hl) ?_
  rintro r h' ⟨rfl,s⟩
  rw[J,hn]
  refine zk 3 rfl ?_
  have q1:((26:Int)+4*((n:Int)+1)).toNat=30+4*n:=by omega
  have q2:((26:Int)+4*(n:Int)).toNat=26+4*n:=by omega
  have s0:=s
  refine WP.drawn [af,af,af,af,af,af,af,af,af,af,af,af,af,af,af,af,af,af,af,af,af] rfl (by kernel_rfl) (by kernel_rfl) ?_
  refine zF rfl (iy _ _) (zL rfl (s.ld (k:=0) rfl bP rfl) (zM rfl (zO rfl (az rfl rfl (by exact bx (aA (by omega) (by omega)))) ?_)))
  refine zO rfl (az rfl rfl (by exact jT (aA (by omega) (by omega)))) ?_
  refine zO rfl (az rfl rfl (by exact bx (aA (by omega) (by omega)))) ?_
  refine zM rfl (zO rfl (az rfl rfl (by exact bx (aA (by omega) (by omega)))) ?_)
  refine zO rfl (az rfl rfl (by exact jT (aA (by omega) (by omega)))) ?_
  refine zO rfl (az rfl rfl (by exact bx (aA (by omega) (by omega)))) ?_
  refine zO rfl (bV (p:=some (.int .i64 (26+4*((n:Int)+1)))) (q:=some (.int .i64 (26+4*((n:Int)+1)))) (m:=none) (p':=some (30+4*n)) (q':=some (30+4*n)) (m':=none) rfl rfl rfl rfl (by rw[ey (by omega),q1]) (by rw[ey (by omega),q1]) rfl (eU (s.buf (k:=1) rfl).view (aU _) (by omega)).1) ?_
  refine zF rfl (iy _ _) (zL rfl (s.ld (k:=0) rfl bP rfl) (zM rfl (zO rfl (az rfl rfl (by exact jT (aA (by omega) (by omega)))) ?_)))
  refine zO rfl (az rfl rfl (by exact bx (aA (by omega) (by omega)))) ?_
  refine zM rfl (zO rfl (az rfl rfl (by exact jT (aA (by omega) (by omega)))) ?_)
  refine zO rfl (az rfl rfl (by exact bx (aA (by omega) (by omega)))) ?_
  refine zO rfl (bV (p:=some (.int .i64 (26+4*(n:Int)))) (q:=some (.int .i64 (26+4*(n:Int)))) (m:=none) (p':=some (26+4*n)) (q':=some (26+4*n)) (m':=none) rfl rfl rfl rfl (by rfl) (by rfl) rfl (eU (s.buf (k:=1) rfl).view (aU _) (by omega)).1) ?_
  refine ax.any rfl rfl rfl rfl (OpR.aaE rfl (s.ae [1]) rfl rfl rfl rfl (by omega) (by omega) (by omega)) ?_
  intro r h s
  have s:=s.ae [1,0]
  refine ax.nil ⟨⟨aa,aa,aa,aa,aa,aa,aa,aa,aa,aa,aa,aa,aa,aa,aa,aa,aa,aa,aa,aa,aa,aa⟩,?_⟩
  refine zg rfl (zl rfl (s.bZ (k:=0) rfl cH bQ) (zm rfl (zb rfl (by exact bx (aA (by omega) (by omega))) ?_)))
  refine zo rfl (b6 rfl (by exact ja bF cM (fK (by omega) (by omega)))) ?_
  have en:(n:Int)+1=((n+1:Nat):Int):=by omega
  rw[en]
  refine zc rfl (qz (a:=14) (z:=2) (n:=n+1) I (s.ae [1]) (by decide) (by decide) (by omega) (by omega)) ?_
  rintro r h ⟨rfl,s⟩
  have s:=s.ae [1,0]
  refine zk 3 rfl (zl rfl (s.bZ (k:=0) rfl cH bQ) (zk 2 rfl (zc rfl (Tf (i:=n) (lo:=lo) I (s.ae [1,2]) hY l1 (by omega) js (by omega)) ?_)))
  rintro r h ⟨rfl,s⟩
  have s:=s.ae [2,0,1,0]
  refine zk 3 rfl (zY s 0 iy bP rfl (zk 3 rfl (WP.ret ⟨aa,_,rfl,?_⟩)))
  subst hn
  exact⟨_,_,rfl,hp.ins hf qI,s.drop⟩
 ·rw[hp.good] at hg;cases hg
theorem E8 (hT:W told)(s:Sat h (X::Y::S))(hX:cQ X (cW v b))(hY:cQ Y (cW x c'))(J:dW b kd link extra cs)(hc:cs[i]?=some c)(Ql:c'.length=c.length):
  Call ⟨Tryz.prog,told⟩ 110 [v,.int .i64 (i:Int),x] h fun r h'=>∃u b',r=.bf [u,.int .i64 0]∧dW b' kd link extra (cs.set i c')∧Sat h' (aV u b'::X::Y::S):=by
 have hl:=J.len
 have fA:=J.fits
 have hi:=(List.getElem?_eq_some_iff.1 hc).1
 have Qi:=nN hc
 have I:=J.rep hc Ql
 obtain⟨s1,s2,s3⟩:=J.slot i c hc
 generalize hf:dU b i=f at s1 s3 I
 have l1:(bp b f c').length=512:=by rw[cJ (by omega),hl]
 refine Call.of_wp (hT.free _ rfl) Tryz.func110 rfl rfl (zK 8 rfl (zc rfl (vb hT s hX (by omega)) ?_))
 rintro r h' (⟨hg,u,rfl,s⟩|⟨hg,rfl,s⟩)
 ·obtain⟨qM,_,cap,_,rfl,_⟩:=s.fZ (by omega)
  refine zk 3 rfl ?_
  refine ay.b8 s rfl rfl rfl (bU j7) (fun p8 h s => ?_)
  dsimp only[V.cells,List.length_cons,List.length_nil,Nat.reduceAdd] at s
  refine zS rfl (s.ep (j:=0) rfl bQ rfl rfl) (fun h s => ?_)
  dsimp only[setA] at s
  refine zk 3 rfl (WP.block (zK 3 rfl (zC rfl aD (rfl) (zk 6 rfl (zC rfl aN (by simp) ?_)))))
  refine zk 2 rfl (zl rfl (s.bZ (k:=0) rfl cH bQ) (zc rfl (lG hT s (k:=1) rfl (bu _ _) hl) ?_))
  rintro r h' ⟨rfl,s⟩
  rw[J.cY]
  refine zC rfl jJ (by grind) ?_
  refine zk 2 rfl (zv (zj rfl (WP.skip (zg rfl (zl rfl (by exact s.bZ (k:=0) rfl cH bQ) ?_)))))
  refine zm rfl (zc rfl (Bg (i:=i) hT s (k:=1) rfl (bu _ _) hl (by omega)) ?_)
  rintro r h' ⟨rfl,s⟩
  rw[hf,s2]
  refine zk 10 rfl (zo rfl (aP rfl rfl rfl (bj aT (s.aH (k:=3) rfl hY))) (zm rfl (zB rfl xx (by grind) ?_)))
  refine zk 4 rfl (zY s 0 iy bP rfl (zm rfl ?_))
  have j_:=cf (s.aH (k:=1) rfl (bu _ _)) (a:=f) (by omega)
  refine zo rfl (bV (p:=some (.int .i64 (f:Int))) (q:=none) (m:=none) (p':=some f) (q':=none) (m':=none) rfl rfl rfl rfl (by rfl) rfl rfl j_.1) ?_
  refine zm rfl (ay.any rfl rfl rfl (OpR.UO rfl (s.ae [1,2]) hY rfl rfl rfl rfl (by omega) (aU _) (by omega)) ?_)
  intro r h s
  rw[eW (by omega)] at s
  have s:=s.ae [2,0,1,0]
  refine zk 3 rfl (zl rfl (s.bZ (k:=0) rfl cH bQ) (zk 3 rfl (zo rfl (aP rfl rfl rfl (bj aT (s.aH (k:=3) rfl hY))) (zc rfl (DS (i:=i) (f:=f) (z:=c'.length) hT (s.ae [1]) l1 (by omega) (by omega) (by omega)) ?_))))
  rintro r h ⟨rfl,s⟩
  have s:=s.ae [1,0]
  exact zk 3 rfl (zY s 0 iy bP rfl (zk 3 rfl (WP.ret ⟨aa,_,rfl,_,_,rfl,I,s.drop⟩)))
 ·rw[J.good] at hg;cases hg
theorem No (I:W told){c0 c1:List Nat}(s:Sat h (X::S))(hX:cQ X (cW v b))(J:dW b kd link extra [c0,c1]):
  Call ⟨Tryz.prog,told⟩ 140 [v] h fun r h'=>∃w u0 u1,r=.bf [w,.int .i64 0]∧Sat h' (.arr 1 w [u0,u1]::aV u0 c0::aV u1 c1::X::S):=by
 have hl:=J.len
 have hv:=s.aH (k:=0) rfl hX
 have fA:=J.fits
 simp only[tot,aX,cI] at fA
 obtain⟨pi,po,pc,rfl⟩:=iS hv (by omega)
 obtain⟨i1,jZ,jv,u_⟩:=Ti
 refine Call.of_wp (I.free _ rfl) Tryz.func140 rfl rfl (zK 8 rfl (zc rfl (uw I s hX (by omega)) ?_))
 rintro r h' ⟨s,(⟨hg,rfl⟩|⟨hg,rfl⟩)⟩
 ·refine ay.op rfl rfl rfl (bD rfl) ?_
  refine zk 2 rfl ?_
  refine ay.b8 s rfl rfl rfl (bU j7) (fun p4 h s => ?_)
  dsimp only[V.cells,List.length_cons,List.length_nil,Nat.reduceAdd] at s
  refine zS rfl (s.ep (j:=0) rfl bQ rfl rfl) (fun h s => ?_)
  dsimp only[setA] at s
  refine zk 6 rfl (zC rfl aD (rfl) (zk 5 rfl (zl rfl (s.bZ (k:=0) rfl cH bQ) (zc rfl (lG I s (k:=1) rfl hX hl) ?_))))
  rintro r h' ⟨rfl,s⟩
  rw[show lF b=2 from J.cY]
  obtain⟨wv,h1,e3,s1⟩:=u7 (P:=Tryz.prog) s gG jZ o8 jv (by omega) rfl (by decide) (by decide) (n:=0) (c:=2) (by decide) (by decide)
  refine ay.any rfl rfl rfl (OpR.of (R:=fun v h'=>v=wv∧h'=h1) (s_ rfl rfl e3) ⟨rfl,rfl⟩) ?_
  rintro w0 h ⟨rfl,rfl⟩
  have s:Sat h (.arr 1 w0 []::_):=s1
  have s:=s.ae [1,1,0]
  dsimp only[bringA,getA,aL] at s
  refine zk 5 rfl (zl rfl (s.bZ (k:=0) rfl cH bQ) (zc rfl (lG I s (k:=1) rfl hX hl) ?_))
  rintro r h' ⟨rfl,s⟩
  rw[show lF b=2 from J.cY]
  refine zk 2 rfl (WP.block (WP.loop (zg rfl (zB rfl aN (by decide) ?_))))
  refine zk 5 rfl (WP.block (zK 7 rfl (zl rfl (s.bZ (k:=0) rfl cH bQ) (zm rfl (zc rfl (E7 (i:=0) (c:=c0) I s (k:=1) rfl hX J rfl) ?_)))))
  rintro r h' ⟨f,rfl,hr,s⟩
  refine zc rfl (An I (s.ae [1]) hr (by omega)) ?_
  intro u0 h s
  have hu0:=(s.buf (k:=0) rfl).view.cells
  have s:=s.ae [3]
  dsimp only[aL,bringA,getA] at s
  obtain⟨iv,h1,qN,s1⟩:=kq (P:=Tryz.prog) (k:=1) (x:=u0) s gG o8 ij rfl (by decide) (by decide) (by grind) (by grind)
  rw[hu0.1] at s1
  refine ay.any rfl rfl rfl (OpR.of (R:=fun v h'=>v=iv∧h'=h1) (nk rfl qN) ⟨rfl,rfl⟩) ?_
  rintro v' h' ⟨rfl,rfl⟩
  obtain⟨av,h2,rW,s2⟩:=iG (s1.ae [1,0]) gG jZ o8 jv (by omega) rfl (by decide) (by simp)
  dsimp only[List.nil_append,aL,bringA] at s2
  refine ay.any rfl rfl rfl (OpR.of (R:=fun v h'=>v=av∧h'=h2) (lP rfl rfl rW) ⟨rfl,rfl⟩) ?_
  rintro v' h ⟨rfl,rfl⟩
  have s:=(s2.del 1).ae [3,2,0,0]
  dsimp only[aL,bringA,getA] at s
  refine za rfl (zv (zr rfl (zb rfl (by exact bx (aA (by omega) (by omega))) ?_)))
  refine zm rfl (zv (WP.loop (zg rfl (zt rfl (az rfl rfl aN) (by decide) ?_))))
  refine zk 5 rfl (WP.block (zK 7 rfl (zl rfl (s.bZ (k:=0) rfl cH bQ) (zm rfl (zc rfl (E7 (i:=1) (c:=c1) I s (k:=1) rfl hX J rfl) ?_)))))
  rintro r h' ⟨f1,rfl,lZ,s⟩
  refine zc rfl (An I (s.ae [1]) lZ (by omega)) ?_
  intro u1 h s
  have hu1:=(s.buf (k:=0) rfl).view.cells
  have s:=s.ae [3]
  dsimp only[aL,bringA,getA] at s
  obtain⟨iv1,h1,qN,s1⟩:=kq (P:=Tryz.prog) (k:=1) (x:=u1) s gG o8 ij rfl (by decide) (by decide) (by grind) (by grind)
  rw[hu1.1] at s1
  refine ay.any rfl rfl rfl (OpR.of (R:=fun v h'=>v=iv1∧h'=h1) (nk rfl qN) ⟨rfl,rfl⟩) ?_
  rintro v' h' ⟨rfl,rfl⟩
  obtain⟨av1,h2,rW,s2⟩:=iG (s1.ae [1,0]) gG jZ o8 jv (by omega) rfl (by decide) (by simp)
  dsimp only[List.cons_append,List.nil_append,aL,bringA] at s2
  refine ay.any rfl rfl rfl (OpR.of (R:=fun v h'=>v=av1∧h'=h2) (lP rfl rfl rW) ⟨rfl,rfl⟩) ?_
  rintro v' h ⟨rfl,rfl⟩
  have s:=(s2.del 1).ae [3,2,0,1,0]
  dsimp only[aL,bringA,getA] at s
  refine za rfl (zv (zr rfl (zb rfl (by exact bx (aA (by omega) (by omega))) ?_)))
  refine zm rfl (zv (WP.loop (zg rfl (zh rfl (az rfl rfl aN) (by decide) ?_))))
  exact zk 3 rfl (WP.exit (zK 6 rfl (WP.ret ⟨aa,_,rfl,_,_,_,rfl,(s.ae [2,2,2,1]).del 4⟩)))
 ·rw[J.good] at hg;cases hg
end
def Sm (N:Nat)(ε ah:aZ): Prop:=(∀m,pgA ah m=pgA ε m)∧(∀P:VP,mu N P→vw P ε→vw P ah)∧bG ah≤bG ε
theorem Sm.refl (N:Nat)(ε:aZ): Sm N ε ε:=⟨fun _=>rfl,fun _ _ h=>h,aU _⟩
theorem Sm.trans {a b c:aZ}(h:Sm N a b)(g:Sm N b c): Sm N a c:=⟨fun m=>(g.1 m).trans (h.1 m),fun P I hv=>g.2.1 P I (h.2.1 P I hv),bT g.2.2 h.2.2⟩
structure sO (told : dc) (N B : Nat) (rv : V) (A : aZ → aO) (pg : aZ → Int → List Nat) : Prop where
 iface : ∃ ty u f, rv = .iface ty u ∧ methV Tryz.prog ty "Read" = some f ∧ ∀ {h : H} {S : List aO} {ε : aZ} {n : Int}, EI N B ε → 0 ≤ n → n < N → Sat h (A ε :: S) →
  Call ⟨Tryz.prog, told⟩ f [u, .int .i64 n] h fun v h' => ∃ w ah, v = .bf [w, .int .i64 0] ∧ EI N B ah ∧ Sm N ε ah ∧ Sat h' (aV w (pg ε n) :: A ah :: S)
 same : ∀ {ε ah : aZ}, Sm N ε ah → ∀ m, pg ah m = pg ε m
structure Gj (told : dc) (N : Nat) (lv dd : aZ → Prop) (sm : aZ → aZ → Prop) (rv : V) (A : aZ → aO) (pg : aZ → Int → List Nat) : Prop where
 iface : ∃ ty u f, rv = .iface ty u ∧ methV Tryz.prog ty "Read" = some f ∧ ∀ {h : H} {S : List aO} {ε : aZ} {n : Int}, lv ε → 0 ≤ n → n < N → Sat h (A ε :: S) →
  Call ⟨Tryz.prog, told⟩ f [u, .int .i64 n] h fun v h' => (∃ ah, v = .bf [.bC, .int .i64 9] ∧ dd ah ∧ Sat h' (A ah :: S)) ∨ ∃ w ah, v = .bf [w, .int .i64 0] ∧ lv ah ∧ sm ε ah ∧ Sat h' (aV w (pg ε n) :: A ah :: S)
 same : ∀ {ε ah : aZ}, sm ε ah → ∀ m, pg ah m = pg ε m
 tr : ∀ {a b c : aZ}, sm a b → sm b c → sm a c
abbrev noD : aZ→Prop:=fun _=>False
theorem sO.m {told:dc}(I:sO told N B rv A pg): Gj told N (EI N B) noD (Sm N) rv A pg:=by
 obtain⟨ty,u,f,e,hm,J⟩:=I.iface
 exact⟨⟨ty,u,f,e,hm,fun a b c s=>(J a b c s).mono fun _ _ k=>.inr k⟩,I.same,Sm.trans⟩
section
variable {v c:V} {cs:List V}
theorem Sat.Ao (s:Sat h S)(J:getA S k=some (.arr 1 v cs))(hi:cs[i]?=some c)(hu:P.underlying t=some (.slice te))(I:bJ P te=some 1)(e:indexAddrV P t v (.int .i64 (i:Int))=some (.ptr id off))(ha:isAggT P t'=some false): loadV P h t' (.ptr id off)=some c:=by
 grind[iz]
theorem Wq {s d:TypeId}{x:Operand}{r:V}{h₁:H}(I:bB E x=some v)(J:convV P h s d v=none)(h2:convB P h s d v=some (r,h₁)): opE P E h (.convert s d x)=some (r,h₁):=by
 grind[opE,jO]
end
def fy : List Nat:=[109,117,110,105,109,101,110,116]
theorem Tj : buildSliceV Tryz.prog h 28 8 [(0,.int .u8 109),(1,.int .u8 117),(2,.int .u8 110),(3,.int .u8 105),(4,.int .u8 109),(5,.int .u8 101),(6,.int .u8 110),(7,.int .u8 116)]=some (.sl h.next 0 8 (.exact 8),newRow h (ofBytes fy)):=by
 simp only[buildSliceV,aT,eE,oZ,V.cells]
 rfl
theorem Bq {x y:Operand}{b:Nat}(I:0<b)(hw:a<9223372036854775808): binV P h .quo t x y (.int .i64 (a:Int)) (.int .i64 (b:Int))=some (.int .i64 ((a/b:Nat):Int)):=by
 simp only[binV,ikBeq,aj,intV]
 have:intBeq (b:Int) 0=false:=by rw[kY];simp;omega
 have J:a/b≤a:=AL a b
 grind[aA]
section
variable {told:dc} {v:V} {kd:Nat} {sm:aZ→aZ→Prop}
theorem Jd (J:W told)(s:Sat h S): Call ⟨Tryz.prog,told⟩ 74 [] h fun r h'=>Sat h' (.cg r fy::S):=by
 refine Call.of_wp (J.free _ rfl) Tryz.func74 rfl rfl (zK 6 rfl (ay.any rfl rfl rfl (OpR.of (R:=fun v h'=>v=.sl h.next 0 8 (.exact 8)∧h'=newRow h (ofBytes fy)) (nk rfl Tj) ⟨rfl,rfl⟩) ?_))
 rintro v I ⟨rfl,rfl⟩
 have s1:Sat (newRow h (ofBytes fy)) (pt h.next (.cells 8 (ofBytes fy) false)::S):=s.new _
 generalize newRow h (ofBytes fy)=I at s1
 generalize h.next=id at s1
 have hg:=s1.row (k:=0) rfl
 have e1:convB Tryz.prog I 28 28 (.sl id 0 8 (.exact 8))=some (.sl id 0 8 (.exact 8),I.put id (some (.cells 8 (ofBytes fy) true))):=by
  simp only[convB,aT,Tryz.underlying5,hg]
  rfl
 have e0:convV Tryz.prog I 28 28 (.sl id 0 8 (.exact 8))=none:=by
  simp only[convV,aT]
 have s2:Sat (I.put id (some (.cells 8 (ofBytes fy) true))) (pt id (.cells 8 (ofBytes fy) true)::S):=s1.put (k:=0) rfl
 have s3:Sat (I.put id (some (.cells 8 (ofBytes fy) true))) (.cg (.sl id 0 8 (.exact 8)) fy::S):=s2.freeze.gX (B:=.cg (.sl id 0 8 (.exact 8)) fy) fun m r hm=>⟨by decide,.inr ⟨id,0,.exact 8,8,_,true,rfl,hm,rfl,by decide,rfl,by decide⟩⟩
 refine ay.any rfl rfl rfl (OpR.of (R:=fun v h'=>v=.sl id 0 8 (.exact 8)∧h'=I.put id (some (.cells 8 (ofBytes fy) true))) (Wq rfl e0 e1) ⟨rfl,rfl⟩) ?_
 rintro v h2 ⟨rfl,rfl⟩
 exact zk 2 rfl (WP.ret ⟨aa,_,rfl,s3⟩)
theorem Qm (J:W told)(hx:View h x l)(hy:View h y c): Call ⟨Tryz.prog,told⟩ 141 [x,y] h fun r h'=>r=.bool (decide (l=c))∧h'=h:=by
 refine Call.of_wp (J.free _ rfl) Tryz.func141 rfl rfl (zK 7 rfl (zo rfl (b6 rfl (DG hx)) (zm rfl (zo rfl (b6 rfl (DG hy)) ?_))))
 by_cases I:l=c
 ·skip
  exact zB rfl Mu (decide_eq_true I) (zk 2 rfl (WP.ret ⟨aa,_,rfl,by rw[fL I],rfl⟩))
 ·skip
  exact zC rfl Mu (decide_eq_false I) (zk 2 rfl (WP.ret ⟨aa,_,rfl,by rw[fE I],rfl⟩))
theorem uJ (I:W told)(J:1≤n)(h2:n≤3000): Call ⟨Tryz.prog,told⟩ 54 [.int .i64 (n:Int)] h fun r h'=>r=.int .i64 2∧h'=h:=by
 have e:(n+2999)/3000=1:=by omega
 refine Call.of_wp (I.free _ rfl) Tryz.func54 rfl rfl (zK 7 rfl (zb rfl (by exact bx (aA (by omega) (by omega))) ?_))
 refine zb rfl (by exact iX (aA (by omega) (by omega))) ?_
 refine zo rfl (az (r:=.int .i64 (((n+2999)/3000:Nat):Int)) rfl rfl (by rw[show(n:Int)+3000-1=((n+2999:Nat):Int) by omega];exact Bq (by decide) (by omega))) ?_
 rw[e]
 refine zb rfl (by exact bx (aA (by omega) (by omega))) ?_
 exact zk 2 rfl (WP.ret ⟨aa,_,rfl,rfl,rfl⟩)
theorem LA (hT:W told)(hR:Gj told N lv dd sm rv A pg)(gj:lv ε)(hN:1≤N)(hp:dW (pg ε 0) 201 n extra [fy,R])(gV:R.length=64)(s:Sat h (A ε::S)):
  Call ⟨Tryz.prog,told⟩ 91 [rv] h fun v h'=>(∃ah,v=.bf [.bC,.int .i64 0,.bool false,.int .i64 9]∧Sat h' (A ah::S)∧dd ah)∨∃u ah,v=.bf [u,.int .i64 (n:Int),.bool true,.int .i64 0]∧lv ah∧sm ε ah∧Sat h' (aV u R::A ah::S):=by
 obtain⟨ty,u,f,rfl,hm,mA⟩:=hR.iface
 refine Call.of_wp (hT.free _ rfl) Tryz.func91 rfl rfl (zK 10 rfl (ay.any rfl rfl rfl (OpR.invoke rfl rfl rfl hm rfl (mA gj (by decide) (by omega) s)) ?_))
 rintro v h (⟨ah,rfl,hd,s⟩|⟨u,ah,rfl,F5,hs,s⟩)
 ·skip
  refine zk 10 rfl (zB rfl aD (by decide) ?_)
  exact zk 10 rfl (WP.ret ⟨aa,_,rfl,.inl ⟨ah,rfl,s,hd⟩⟩)
 refine zk 10 rfl (zC rfl aD (rfl) (zk 6 rfl (zc rfl (No hT s (bu _ _) hp) ?_)))
 rintro v h ⟨w,u0,u1,rfl,s⟩
 obtain⟨id0,I,g1,g2⟩:=iz (P:=Tryz.prog) s (k:=0) (i:=0) (c:=u0) rfl rfl gG ij
 obtain⟨id1,J,g3,g4⟩:=iz (P:=Tryz.prog) s (k:=0) (i:=1) (c:=u1) rfl rfl gG ij
 have hbw:=(s.iY (j:=0) rfl).2.2
 have tU:=dg (s.buf (k:=1) rfl).view
 refine zk 8 rfl ?_
 have s0:=s
 refine WP.drawn [af,af,af,af,af,af,af,af,some (0,2),some (0,2),some (0,2),af,af,af,af,af,af,af,af,af,af,af] rfl (by kernel_rfl) (by kernel_rfl) ?_
 refine zM rfl (ax.kC rfl rfl rfl rfl (az rfl rfl aD) (by decide) ?_)
 refine zM rfl (zM rfl (zO rfl (aP rfl rfl rfl (s.ew (n:=2) (j:=0) rfl rfl (by decide) gG)) ?_))
 refine ax.kC rfl rfl rfl rfl (az rfl rfl aD) (by decide) ?_
 refine zO rfl (fb rfl rfl) (zM rfl (zM rfl (zO rfl (cj (r:=.ptr id0 I) rfl rfl g1) (zL rfl (s.Ao (k:=0) (i:=0) rfl rfl gG ij g1 bP) (ax.any rfl rfl rfl rfl (OpR.call rfl rfl rfl rfl (Jd hT s)) ?_)))))
 intro mv h s
 have s:=s.ae [1,1,1,1,1,0]
 have s1:=s
 refine ax.any rfl rfl rfl rfl (OpR.call rfl rfl rfl rfl (Qm hT (s.buf (k:=1) rfl).view (s.aH (k:=5) rfl (dF _ _)))) ?_
 rintro r h' ⟨rfl,rfl⟩
 rw[show decide (fy=fy)=true from fL rfl]
 refine zO rfl (dQ rfl rfl) (zO rfl (fb rfl rfl) (zM rfl (zM rfl (zO rfl (cj (r:=.ptr id1 J) rfl rfl g3) (zL rfl (s.Ao (k:=0) (i:=1) rfl rfl gG ij g3 bP) (zO rfl (aP rfl rfl rfl (bj aT (s.aH (k:=2) rfl (bu _ _)))) ?_))))))
 rw[gV]
 refine ax.kC rfl rfl rfl rfl (az rfl rfl aD) (by decide) ?_
 refine zO rfl (fb rfl rfl) ?_
 refine ax.nil ⟨⟨aa,aa,aa,aa,aa,aa,aa,aa,fun _ _=>.inr ⟨rfl,⟨_,bD rfl⟩,hbw⟩,fun _ _=>.inr ⟨rfl,⟨_,cj (r:=.ptr id0 I) rfl rfl g1⟩,bn _ rfl⟩,dw (.inr ⟨rfl,⟨_,aW rfl (s0.Ao (k:=0) (i:=0) rfl rfl gG ij g1 bP)⟩,tU⟩) (.inr ⟨rfl,⟨_,aW rfl (s1.Ao (k:=0) (i:=0) rfl rfl gG ij g1 bP)⟩,tU⟩),aa,aa,aa,aa,aa,aa,aa,aa,aa,aa,aa,aa⟩,?_⟩
 refine zK 5 rfl ?_
 have Hl:=hp.len
 refine zc rfl (K7 hT (s.ae [3]) (bu _ _) (by omega)) ?_
 rintro v h ⟨s,(⟨hg,rfl⟩|⟨hg,rfl⟩)⟩
 ·rw[show(pg ε 0).getD 12 0=201 from hp.kind,show cO (pg ε 0) 18 4=n from hp.link]
  have s:=s.ae [1,1,1,1,0]
  refine zk 16 rfl (zC rfl aD (by decide) ?_)
  exact zk 6 rfl (zo rfl (cj (r:=.ptr id1 J) rfl rfl g3) (zl rfl (s.Ao (k:=0) (i:=1) rfl rfl gG ij g3 bP) (zk 6 rfl (WP.ret ⟨aa,_,rfl,.inr ⟨_,ah,rfl,F5,hs,(((((s.ae [2,2]).del 5).del 4).del 3).del 2)⟩⟩))))
 ·rw[hp.good] at hg;cases hg
theorem Tk (hT:W told)(hR:sO told N B rv A pg)(I:EI N B ε)(hN:1≤N)(hp:dW (pg ε 0) 201 n extra [fy,R])(J:R.length=64)(s:Sat h (A ε::S)):
  Call ⟨Tryz.prog,told⟩ 91 [rv] h fun v h'=>∃u ah,v=.bf [u,.int .i64 (n:Int),.bool true,.int .i64 0]∧EI N B ah∧Sm N ε ah∧Sat h' (aV u R::A ah::S) :=
 (LA hT hR.m I hN hp J s).mono fun _ _ k=>k.resolve_left fun⟨_,_,_,q⟩=>q
theorem Ap (hT:W told)(hR:Gj told N lv dd sm rv A pg)(J:lv ε)(hN:1≤N)(hp:dW (pg ε 0) 201 n extra [fy,R])(gV:R.length=64)(s:Sat h (A ε::S)):
  Call ⟨Tryz.prog,told⟩ 53 [rv] h fun v h'=>(∃ah,v=.bf [.bC,.int .i64 0,.int .i64 9]∧Sat h' (A ah::S)∧dd ah)∨∃u ah,v=.bf [u,.int .i64 (n:Int),.int .i64 0]∧lv ah∧sm ε ah∧Sat h' (aV u R::A ah::S):=by
 refine Call.of_wp (hT.free _ rfl) Tryz.func53 rfl rfl (zK 9 rfl (zc rfl (LA hT hR J hN hp gV s) ?_))
 rintro v h (⟨ah,rfl,s,hd⟩|⟨u,ah,rfl,I,hs,s⟩)
 ·skip
  refine zk 11 rfl (WP.block (zK 3 rfl (zB rfl aD (by decide) ?_)))
  exact zk 10 rfl (WP.ret ⟨aa,_,rfl,.inl ⟨ah,rfl,s,hd⟩⟩)
 refine zk 9 rfl (zv (zw (WP.block (zg rfl (zm rfl (zh rfl (az rfl rfl aD) (rfl) (za rfl (zv (zj rfl (zg rfl (zm rfl (zo rfl (dQ rfl rfl) (za rfl (zv (zj rfl (WP.skip (zg rfl (zk 5 rfl (zv ?_)))))))))))))))))))
 refine WP.ret ⟨aa,_,rfl,?_⟩
 exact .inr ⟨u,ah,rfl,I,hs,s⟩
theorem Br (hT:W told)(hR:sO told N B rv A pg)(I:EI N B ε)(hN:1≤N)(hp:dW (pg ε 0) 201 n extra [fy,R])(J:R.length=64)(s:Sat h (A ε::S)):
  Call ⟨Tryz.prog,told⟩ 53 [rv] h fun v h'=>∃u ah,v=.bf [u,.int .i64 (n:Int),.int .i64 0]∧EI N B ah∧Sm N ε ah∧Sat h' (aV u R::A ah::S) :=
 (Ap hT hR.m I hN hp J s).mono fun _ _ k=>k.resolve_left fun⟨_,_,_,q⟩=>q
theorem Je (hT:W told)(hR:sO told N B rv A pg)(J:EI N B ε)(hN:1≤N)(hp:dW (pg ε 0) 201 n extra [fy,R])(gV:R.length=64)(s:Sat h (A ε::S)):
  Call ⟨Tryz.prog,told⟩ 37 [rv] h fun v h'=>∃ah,v=.bf [.bool true,.int .i64 0]∧EI N B ah∧Sm N ε ah∧Sat h' (A ah::S):=by
 refine Call.of_wp (hT.free _ rfl) Tryz.func37 rfl rfl (zK 8 rfl (zc rfl (Tk hT hR J hN hp gV s) ?_))
 rintro v h ⟨u,ah,rfl,I,hs,s⟩
 exact zk 17 rfl (WP.ret ⟨aa,_,rfl,ah,rfl,I,hs,s.drop⟩)
theorem Ws (J:W told)(hR:sO told N B rv A pg)(gj:EI N B ε)(hN:1≤N)(hp:dW (pg ε 0) 201 n extra [fy,R])(gV:R.length=64)(h1:1≤n)(h2:n≤3000)(s:Sat h (A ε::S)):
  Call ⟨Tryz.prog,told⟩ 66 [rv] h fun v h'=>∃ah,v=.bf [.int .i64 2,.int .i64 0]∧EI N B ah∧Sm N ε ah∧Sat h' (A ah::S):=by
 refine Call.of_wp (J.free _ rfl) Tryz.func66 rfl rfl (zK 8 rfl (zc rfl (Br J hR gj hN hp gV s) ?_))
 rintro v h ⟨u,ah,rfl,I,hs,s⟩
 refine zk 12 rfl (zC rfl aD (rfl) (zk 6 rfl (zc rfl (uJ J h1 h2) ?_)))
 rintro v h' ⟨rfl,rfl⟩
 exact zk 3 rfl (WP.ret ⟨aa,_,rfl,ah,rfl,I,hs,s.drop⟩)
theorem wS (hT:W told)(hR:Gj told N lv dd sm rv A pg)(J:lv ε)(hN:2≤N)(hp:dW (pg ε 1) kd link extra [M])(hM:M.length=375)(s:Sat h (A ε::S)):
  Call ⟨Tryz.prog,told⟩ 55 [rv,.int .i64 0] h fun v h'=>(∃ah,v=.bf [.bC,.bC,.int .i64 9]∧Sat h' (A ah::S)∧dd ah)∨∃w u ah,v=.bf [w,u,.int .i64 0]∧lv ah∧sm ε ah∧Sat h' (aV u M::aV w (pg ε 1)::A ah::S):=by
 obtain⟨ty,u,f,rfl,hm,mA⟩:=hR.iface
 refine Call.of_wp (hT.free _ rfl) Tryz.func55 rfl rfl (zK 11 rfl (zb rfl (by exact bx (aA (by omega) (by omega))) ?_))
 refine ay.any rfl rfl rfl (OpR.invoke rfl rfl rfl hm rfl (mA (n:=1) J (by decide) (by omega) s)) ?_
 rintro v h (⟨ah,rfl,hd,s⟩|⟨w,ah,rfl,I,hs,s⟩)
 ·skip
  refine zk 9 rfl (zB rfl aD (by decide) ?_)
  exact zk 9 rfl (WP.ret ⟨aa,_,rfl,.inl ⟨ah,rfl,s,hd⟩⟩)
 refine zk 9 rfl (zC rfl aD (rfl) (zk 6 rfl (zc rfl (Th (i:=0) hT s (bu _ _) hp rfl) ?_)))
 rintro v h ⟨u,rfl,s⟩
 refine zk 10 rfl (zC rfl aD (rfl) (zk 2 rfl (zo rfl (aP rfl rfl rfl (bj aT (s.aH (k:=0) rfl (bu _ _)))) ?_)))
 rw[hM]
 refine zC rfl aD (by decide) ?_
 exact zk 12 rfl (WP.ret ⟨aa,_,rfl,.inr ⟨w,u,ah,rfl,I,hs,s⟩⟩)
theorem Jf (J:W told)(hR:sO told N B rv A pg)(I:EI N B ε)(hN:2≤N)(hp:dW (pg ε 1) kd link extra [M])(hM:M.length=375)(s:Sat h (A ε::S)):
  Call ⟨Tryz.prog,told⟩ 55 [rv,.int .i64 0] h fun v h'=>∃w u ah,v=.bf [w,u,.int .i64 0]∧EI N B ah∧Sm N ε ah∧Sat h' (aV u M::aV w (pg ε 1)::A ah::S) :=
 (wS J hR.m I hN hp hM s).mono fun _ _ k=>k.resolve_left fun⟨_,_,_,q⟩=>q
theorem Wt (J:W told)(hR:sO told N B rv A pg)(gj:EI N B ε)(hN:1≤N)(hp:dW (pg ε 0) 201 n extra [fy,R])(gV:R.length=64){i:Int}(UA : -1≤i)(jZ:i≤16)(s:Sat h (A ε::S)):
  Call ⟨Tryz.prog,told⟩ 69 [rv,.int .i64 i] h fun v h'=>∃ah,v=(if 0≤i∧i<16 then .bf [.int .i64 (cO R (4*i.toNat) 4:Nat),.int .i64 0] else .bf [.int .i64 0,.int .i64 1])∧EI N B ah∧Sm N ε ah∧Sat h' (A ah::S):=by
 refine Call.of_wp (J.free _ rfl) Tryz.func69 rfl rfl (zK 8 rfl (zc rfl (Br J hR gj hN hp gV s) ?_))
 rintro v h ⟨u,ah,rfl,I,hs,s⟩
 refine zk 9 rfl (WP.block (zK 3 rfl (zC rfl aD (rfl) (zk 6 rfl ?_))))
 by_cases h0:i<0
 ·skip
  refine zB rfl aN (by grind) ?_
  exact zk 12 rfl (WP.ret ⟨aa,_,rfl,ah,by grind,I,hs,s.drop⟩)
 ·skip
  refine zC rfl aN (by grind) ?_
  refine zk 2 rfl ?_
  by_cases h1:16≤i
  ·skip
   refine zB rfl jJ (by grind) ?_
   exact zk 9 rfl (WP.ret ⟨aa,_,rfl,ah,by grind,I,hs,s.drop⟩)
  ·skip
   refine zC rfl jJ (by grind) ?_
   refine zk 2 rfl (zv (zj rfl (WP.skip (zg rfl (zk 2 rfl (zb rfl (by exact jT (aA (by omega) (by omega))) ?_))))))
   refine zm rfl (zb rfl (by exact bx (aA (by omega) (by omega))) ?_)
   refine zb rfl (by exact jT (aA (by omega) (by omega))) ?_
   obtain⟨k,rfl⟩:∃k:Nat,i=k:=⟨i.toNat,by omega⟩
   have hv:=(s.buf (k:=0) rfl).view
   have q1:(4*(k:Int)).toNat=4*k:=by omega
   have q2:(4*((k:Int)+1)).toNat=4*k+4:=by omega
   refine zo rfl (bV (p:=some (.int .i64 (4*(k:Int)))) (q:=some (.int .i64 (4*((k:Int)+1)))) (m:=none) (p':=some (4*k)) (q':=some (4*k+4)) (m':=none) rfl rfl rfl rfl (by rfl) (by rfl) rfl (eU hv (by omega) (by omega)).1) ?_
   refine zc rfl (n4 J s (k:=0) rfl (lE (bu _ _) (a:=4*k) (b:=4*k+4) (by omega) (by omega)) (by grind)) ?_
   rintro v h' ⟨rfl,rfl⟩
   have cE:=zT (a:=4*k) (z:=4) hv.1
   have ea:leN ((R.take (4*k+4)).drop (4*k))=cO R (4*k) 4:=rfl
   rw[ea]
   refine zo rfl (b6 rfl (by exact ja cM bF (aA (by omega) (by omega)))) ?_
   exact zk 3 rfl (WP.ret ⟨aa,_,rfl,ah,by grind,I,hs,s.drop⟩)
end
def bt (M:List Nat)(i:Nat): Bool:=(M.getD (i/8) 0).testBit (i%8)
def BY (M:List Nat)(i:Nat): List Nat:=M.set (i/8) (Nat.lor (M.getD (i/8) 0) (2^(i%8)))
def DT (M:List Nat)(i:Nat): List Nat:=M.set (i/8) (Nat.land (M.getD (i/8) 0) (255-2^(i%8)))
theorem Jg {b:Nat}(hi:i<M.length): (M.set i b).getD j 0=if i=j then b else M.getD j 0:=by
 grind
theorem UP (hi:i/8<M.length): bt (BY M i) j=if j=i then true else bt M j:=by
 unfold bt BY
 rw[Jg hi]
 by_cases h:i/8=j/8
 ·rw[aJ h,show Nat.lor (M.getD (i/8) 0) (2^(i%8))=(M.getD (i/8) 0) ||| (2^(i%8)) from rfl,Nat.testBit_or,Nat.testBit_two_pow,h]
  grind
 ·grind
theorem UQ (hi:i/8<M.length): bt (DT M i) j=if j=i then false else bt M j:=by
 unfold bt DT
 rw[Jg hi]
 by_cases h:i/8=j/8
 ·have e:255-2^(i%8)=2^8-(2^(i%8)+1):=by omega
  have I:2^(i%8)<2^8:=vS (by decide) (by omega)
  rw[aJ h,show Nat.land (M.getD (i/8) 0) (255-2^(i%8))=(M.getD (i/8) 0) &&& (255-2^(i%8)) from rfl,Nat.testBit_and,e,Nat.testBit_two_pow_sub_succ I,Nat.testBit_two_pow,h]
  grind
 ·grind
theorem LB : (BY M i).length=M.length:=bY
theorem LC : (DT M i).length=M.length:=bY
theorem Qn (I:a<256)(J:k<8): Nat.lor a (2^k)<256:=Nat.or_lt_two_pow (n:=8) I (vS (by decide) J)
theorem E9 {c:Nat}(I:a<256): Nat.land a c<256:=D9 Nat.and_le_left I
def tq (x:Nat): Nat:=((List.range 8).filter fun i=>x.testBit i).length
def lJ (x:Nat): Nat:=((List.range 8).filter fun i => !x.testBit i).headD 8
theorem LF : ∀x,x<255→lJ x<8∧x.testBit (lJ x)=false∧∀j,j<lJ x→x.testBit j=true:=by
 have:∀x,x<255→(decide (lJ x<8)&&(!x.testBit (lJ x)&&(List.range (lJ x)).all fun j=>x.testBit j))=true:=by decide +kernel
 grind
theorem abG : ∀x,x<256→(∀j,j<8→x.testBit j=true)→x=255:=by
 have:∀x,x<256→((List.range 8).all fun j=>x.testBit j)=true→x=255:=by decide +kernel
 grind
theorem Bt (I:j<8): bt M (8*k+j)=(M.getD k 0).testBit j:=by
 grind[bt]
section
variable {x y:Operand} {b:Nat}
theorem Qo (I:k<8): binV P h .shr t x y (.int .u8 (a:Int)) (.int .i64 (k:Int))=some (.int .u8 ((a/2^k:Nat):Int)):=by
 simp only[binV,shiftV,IntKind.bits,cS]
 grind
theorem Za (I:k<8): binV P h .shl t x y (.int .u8 1) (.int .i64 (k:Int))=some (.int .u8 ((2^k:Nat):Int)):=by
 have J:2^k<256:=vS (a:=2) (n:=8) (by decide) I
 simp only[binV,shiftV,IntKind.bits,cS]
 grind[y7]
theorem Bu {op:BinOp}{f:Nat→Nat→Nat}(I:a<256)(J:b<256)(hf:f a b<256)(he:bitsV op .u8 (a:Int) (b:Int)=some (.int .u8 (IntKind.u8.wrap (f ((a:Int)%(2^(IntKind.u8).bits:Int)).toNat ((b:Int)%(2^(IntKind.u8).bits:Int)).toNat:Nat)))):
  bitsV op .u8 (a:Int) (b:Int)=some (.int .u8 ((f a b:Nat):Int)):=by
 grind[IntKind.bits,y7]
theorem Qp (I:a<256)(J:b<256): binV P h .and t x y (.int .u8 (a:Int)) (.int .u8 (b:Int))=some (.int .u8 ((Nat.land a b:Nat):Int)):=by
 simp only[binV,ikBeq,aj,intV]
 exact Bu (f:=Nat.land) I J (E9 I) rfl
theorem aaF (I:a<256)(J:k<8): binV P h .or t x y (.int .u8 (a:Int)) (.int .u8 ((2^k:Nat):Int))=some (.int .u8 ((Nat.lor a (2^k):Nat):Int)):=by
 simp only[binV,ikBeq,aj,intV]
 exact Bu (f:=Nat.lor) I (vS (a:=2) (n:=8) (by decide) J) (Qn I J) rfl
theorem Qq (I:a<256)(J:b<256): binV P h .andNot t x y (.int .u8 (a:Int)) (.int .u8 (b:Int))=some (.int .u8 ((Nat.land a (255-b):Nat):Int)):=by
 simp only[binV,ikBeq,aj,intV]
 exact Bu (f:=fun a b=>Nat.land a (255-b)) I J (E9 I) rfl
theorem Jh (I:a<256): unV .xor (.int .u8 (a:Int))=some (.int .u8 ((255-a:Nat):Int)):=by
 have:∀a,a<256→Nat.xor 255 a=255-a:=by decide +kernel
 have e:bitsV .xor .u8 ((255:Nat):Int) (a:Int)=some (.int .u8 ((Nat.xor 255 a:Nat):Int)):=Bu (f:=Nat.xor) (by decide) I (by grind) rfl
 rw[this a I] at e
 exact e
theorem Zb : Nat.land (a/2^k) 1=if a.testBit k=true then 1 else 0:=by
 rw[Nat.testBit_eq_decide_div_mod_eq,show Nat.land (a/2^k) 1=(a/2^k) &&& 1 from rfl,D8]
 grind
theorem Qr {f:Nat→Nat}(hu:P.underlying t=some .string)(I:∀x,x<256→nth L x=some (f x))(J:a<256): indexV P t (.str L) (.int .u8 (a:Int))=some (.int .u8 ((f a:Nat):Int)):=by
 simp_all[indexV]
end
section
variable {told:dc} {v:V} {kd:Nat}
theorem Tl (I:W told)(J:a<256): Call ⟨Tryz.prog,told⟩ 56 [.int .u8 (a:Int)] h fun r h'=>r=.int .i64 (tq a:Nat)∧h'=h:=by
 have hle:tq a≤8:=by unfold tq;exact bT (List.length_filter_le _ _) (by simp)
 refine Call.of_wp (I.free _ rfl) Tryz.func56 rfl rfl (zK 7 rfl (zo rfl (yY rfl rfl (Qr (f:=tq) mP (by decide +kernel) J)) ?_))
 refine zo rfl (b6 rfl (by exact ja Tryz.underlying5 bF (aA (by omega) (by omega)))) ?_
 exact zk 2 rfl (WP.ret ⟨aa,_,rfl,rfl,rfl⟩)
theorem Ji (I:W told)(J:a<256): Call ⟨Tryz.prog,told⟩ 109 [.int .u8 ((255-a:Nat):Int)] h fun r h'=>r=.int .i64 (lJ a:Nat)∧h'=h:=by
 have hle:∀a,a<256→lJ a≤8:=by decide +kernel
 have hle:=hle a J
 have he:lJ (255-(255-a))=lJ a:=by rw[show 255-(255-a)=a by omega]
 refine Call.of_wp (I.free _ rfl) Tryz.func109 rfl rfl (zK 7 rfl (zo rfl (yY rfl rfl (Qr (f:=fun x=>lJ (255-x)) mP (by decide +kernel) (by omega))) ?_))
 rw[he]
 refine zo rfl (b6 rfl (by exact ja Tryz.underlying5 bF (aA (by omega) (by omega)))) ?_
 exact zk 2 rfl (WP.ret ⟨aa,_,rfl,rfl,rfl⟩)
noncomputable def lwL : Code:=cD [1,1,1,0,1,0,0,1,1,0,0,1,1,1,1,0,0] ((Tryz.f51.body).getD .skip)
theorem Tm (hT:W told)(hv:View h u M)(hM:M.length=375)(hn:n≤3000)(qI:lo<n)(h0:bt M lo=false)(h1:∀j,j<lo→bt M j=true): ∀(m k:Nat) (E:List (Nat×V)) (Q:Ex→List (Nat×V)→H→Prop),k+m=lo/8 →
  Has E [(5,.int .i64 (n:Int)),(7,.int .i64 0),(39,u),(40,.int .i64 375),(41,.int .i64 (k:Int))] →
  (∀E',look E' 2=some (.int .i64 (lo:Int))→look E' 3=some (.int .i64 0)→Q .ret E' h)→WP ⟨Tryz.prog,told⟩ 65 (.loop lwL) E h Q:=by
 intro m
 induction m with
 |zero =>
  intro k E Q hk hE hq
  have J:M[k]?=some (M[k]'(by omega)):=bA _
  have I:M.getD k 0=M[k]'(by omega):=by rw[gY,J];rfl
  generalize (M[k]'(by omega))=x at J I
  have hx:x<256:=hv.1 x (bI J)
  obtain⟨id,off,e1,e2⟩:=eo hv J
  have CT:x≠255:=fun e=>by
   have:=Bt (M:=M) (k:=k) (j:=lo%8) (by omega)
   rw[show 8*k+lo%8=lo by omega,h0,I,e] at this
   have q:∀j,j<8→(255:Nat).testBit j=true:=by decide
   rw[q _ (by omega)] at this;cases this
  obtain⟨w1,w2,w3⟩:=LF x (by omega)
  have hl:8*k+lJ x=lo:=by
   have a1:=Bt (M:=M) (k:=k) (j:=lJ x) w1
   rw[I,w2] at a1
   rcases tD (8*k+lJ x) lo with q|q
   ·rw[h1 _ q] at a1;cases a1
   ·by_cases q2:lo%8<lJ x
    ·have:=w3 _ q2
     have a2:=Bt (M:=M) (k:=k) (j:=lo%8) (by omega)
     rw[show 8*k+lo%8=lo by omega,h0,I,this] at a2;cases a2
    ·omega
  refine WP.loop (WP.has hE (zg rfl (zB rfl aN (by simp;omega) ?_)))
  refine zk 5 rfl (WP.block (zK 3 rfl (zo rfl (cj (r:=.ptr id off) rfl rfl e1) (zl rfl e2 (zk 6 rfl (zb rfl (by exact jT (aA (by omega) (by omega))) ?_))))))
  refine zm rfl (zb rfl (by exact jT (aA (by omega) (by omega))) ?_)
  refine zb rfl (by exact bx (aA (by omega) (by omega))) ?_
  refine zm rfl (zo rfl (dQ rfl (Jh hx)) (zc rfl (Ji hT hx) ?_))
  rintro v h' ⟨rfl,rfl⟩
  refine zo rfl (az (r:=.int .i64 (lo:Int)) rfl rfl (by rw[←hl,show(((8*k+lJ x:Nat):Int))=(3000*0+8*(k:Int))+(lJ x:Int) by omega];exact bx (aA (by omega) (by omega)))) ?_
  refine zk 5 rfl (zB rfl aD (by simp;omega) ?_)
  refine zk 3 rfl (zB rfl aN (by simp;omega) ?_)
  exact zk 9 rfl (WP.ret (hq _ rfl rfl))
 |succ m ih =>
  intro k E Q hk hE hq
  have J:M[k]?=some (M[k]'(by omega)):=bA _
  have I:M.getD k 0=M[k]'(by omega):=by rw[gY,J];rfl
  generalize (M[k]'(by omega))=x at J I
  have hx:x<256:=hv.1 x (bI J)
  obtain⟨id,off,e1,e2⟩:=eo hv J
  have CT:x=255:=abG x hx fun j hj=>by rw[←I,←Bt hj];exact h1 _ (by omega)
  have Qs:∀a,a<256→lJ a≤8:=by decide +kernel
  have Qs:=Qs x hx
  refine WP.loop (WP.has hE (zg rfl (zB rfl aN (by simp;omega) ?_)))
  refine zk 5 rfl (WP.block (zK 3 rfl (zo rfl (cj (r:=.ptr id off) rfl rfl e1) (zl rfl e2 (zk 6 rfl (zb rfl (by exact jT (aA (by omega) (by omega))) ?_))))))
  refine zm rfl (zb rfl (by exact jT (aA (by omega) (by omega))) ?_)
  refine zb rfl (by exact bx (aA (by omega) (by omega))) ?_
  refine zm rfl (zo rfl (dQ rfl (Jh hx)) (zc rfl (Ji hT hx) ?_))
  rintro v h' ⟨rfl,rfl⟩
  refine zb rfl (by exact bx (aA (by omega) (by omega))) ?_
  refine zk 5 rfl (zC rfl aD (by simp;omega) ?_)
  refine zk 5 rfl (zv (zj rfl (WP.skip (zr rfl (zb rfl (by exact bx (aA (by omega) (by omega))) ?_)))))
  refine zm rfl (zv ?_)
  exact ih (k+1) _ Q (by omega) ⟨rfl,rfl,rfl,rfl,rfl,aa⟩ hq
theorem Qt (hT:W told)(hv:View h u M)(hM:M.length=375)(hn:n≤3000)(h1:∀j,j<n→bt M j=true)(h0:∀j,n≤j→bt M j=false): ∀(m k:Nat) (E:List (Nat×V)) (Q:Ex→List (Nat×V)→H→Prop),k+m=375 →
  Has E [(5,.int .i64 (n:Int)),(7,.int .i64 0),(25,.int .i64 1),(26,.int .i64 0),(39,u),(40,.int .i64 375),(41,.int .i64 (k:Int))] →
  (∀E',Has E' [(25,.int .i64 1),(26,.int .i64 0)]→Q (.exit 2) E' h)→WP ⟨Tryz.prog,told⟩ 65 (.loop lwL) E h Q:=by
 intro m
 induction m with
 |zero =>
  intro k E Q hk I hq
  refine WP.loop (WP.has I (zg rfl (zC rfl aN (by simp;omega) ?_)))
  exact zk 3 rfl (WP.exit (hq _ ⟨rfl,rfl,aa⟩))
 |succ m ih =>
  intro k E Q hk I hq
  have hb:M[k]?=some (M[k]'(by omega)):=bA _
  have J:M.getD k 0=M[k]'(by omega):=by rw[gY,hb];rfl
  generalize (M[k]'(by omega))=x at hb J
  have hx:x<256:=hv.1 x (bI hb)
  obtain⟨id,off,e1,e2⟩:=eo hv hb
  have Qs:∀a,a<256→lJ a≤8:=by decide +kernel
  have Qs:=Qs x hx
  have next:=fun E I=>ih (k+1) E Q (by omega) I hq
  refine WP.loop (WP.has I (zg rfl (zB rfl aN (by simp;omega) ?_)))
  refine zk 5 rfl (WP.block (zK 3 rfl (zo rfl (cj (r:=.ptr id off) rfl rfl e1) (zl rfl e2 (zk 6 rfl (zb rfl (by exact jT (aA (by omega) (by omega))) ?_))))))
  refine zm rfl (zb rfl (by exact jT (aA (by omega) (by omega))) ?_)
  refine zb rfl (by exact bx (aA (by omega) (by omega))) ?_
  refine zm rfl (zo rfl (dQ rfl (Jh hx)) (zc rfl (Ji hT hx) ?_))
  rintro v h' ⟨rfl,rfl⟩
  refine zb rfl (by exact bx (aA (by omega) (by omega))) ?_
  refine zk 5 rfl ?_
  by_cases CT:x=255
  ·skip
   refine zC rfl aD (by simp;omega) ?_
   refine zk 5 rfl (zv (zj rfl (WP.skip (zr rfl (zb rfl (by exact bx (aA (by omega) (by omega))) ?_)))))
   refine zm rfl (zv ?_)
   exact next _ ⟨rfl,rfl,rfl,rfl,rfl,rfl,rfl,aa⟩
  ·obtain⟨w1,w2,w3⟩:=LF x (by omega)
   have Xz:n≤8*k+lJ x:=by
    rcases tD (8*k+lJ x) n with q|q
    ·have:=h1 _ q
     rw[Bt w1,J,w2] at this;cases this
    ·exact q
   refine zB rfl aD (by simp;omega) ?_
   refine zk 3 rfl (zC rfl aN (by simp;omega) ?_)
   refine zq rfl (zv (zj rfl (WP.skip (zr rfl (zb rfl (by exact bx (aA (by omega) (by omega))) ?_)))))
   refine zm rfl (zv ?_)
   exact next _ ⟨rfl,rfl,rfl,rfl,rfl,rfl,rfl,aa⟩
end
def onesL : List Nat→Nat
 |[]=>0
 |x::l=>tq x+onesL l
theorem DU {x:Nat}(I:M[k]?=some x): onesL (M.take (k+1))=onesL (M.take k)+tq x:=by
 induction M generalizing k<;>grind[onesL]
theorem Jj (x:Nat): tq x≤8:=by grind[tq]
theorem Tn : ∀(M:List Nat),onesL M≤8*M.length:=by
 intro M
 induction M<;>grind[Jj,onesL]
section
variable {x y:Operand}
theorem Np (I:n<3000): binV P h .quo t x y (.int .i64 (n:Int)) (.int .i64 3000)=some (.int .i64 0):=by
 have:=Bq (P:=P) (h:=h) (t:=t) (x:=x) (y:=y) (a:=n) (b:=3000) (by decide) (by omega)
 rw[show n/3000=0 by omega] at this;exact this
theorem Nq (I:n<3000): binV P h .rem t x y (.int .i64 (n:Int)) (.int .i64 3000)=some (.int .i64 (n:Int)):=by
 have:=Ce (P:=P) (h:=h) (t:=t) (x:=x) (y:=y) (a:=n) (b:=3000) (by decide)
 rw[show n%3000=n by omega] at this;exact this
theorem Jk : binV P h .eql t x y (.int .u8 ((Nat.land (a/2^k) 1:Nat):Int)) (.int .u8 1)=some (.bool (a.testBit k)):=by
 rw[Zb]
 cases h:a.testBit k<;>rfl
theorem abH {ts:Array TypeId}{k:IntKind}{a b:Int}: builtinV P h .min ts [.int k a,.int k b]=some (.int k (min a b),h):=by
 grind[builtinV,foldV,B1,dD]
end
section
variable {told:dc} {v:V} {kd:Nat} {sm:aZ→aZ→Prop}
structure fW (n:Nat)(R M:List Nat)(p:Int→List Nat): Prop where
 head:∃ex,dW (p 0) 201 n ex [fy,R]
 rl:R.length=64
 marks:∃kd lk ex,dW (p 1) kd lk ex [M]
 ml:M.length=375
 n1:2≤n
 n2:n≤2999
 own:∀j,j<2→bt M j=true
 hi:∀j,n≤j→bt M j=false
theorem To (hT:W told)(hR:Gj told N lv dd sm rv A pg)(gj:lv ε)(hN:2≤N)(hp:fW n R M (pg ε))(qI:lo<n)(h0:bt M lo=false)(h1:∀j,j<lo→bt M j=true)(s:Sat h (A ε::S)):
  Call ⟨Tryz.prog,told⟩ 51 [rv] h fun v h'=>(∃ah,v=.bf [.int .i64 0,.int .i64 9]∧Sat h' (A ah::S)∧dd ah)∨∃ah,v=.bf [.int .i64 (lo:Int),.int .i64 0]∧lv ah∧sm ε ah∧Sat h' (A ah::S):=by
 obtain⟨ex,oI⟩:=hp.head
 obtain⟨kd,lk,ow,I⟩:=hp.marks
 have hM:=hp.ml
 have qd:=hp.n2
 refine Call.of_wp (hT.free _ rfl) Tryz.func51 rfl rfl (zK 8 rfl (zc rfl (Ap hT hR gj (by omega) oI hp.rl s) ?_))
 rintro v h (⟨J,rfl,s,hd⟩|⟨u,J,rfl,jh,fF,s⟩)
 ·skip
  refine zk 12 rfl (zB rfl aD (by decide) ?_)
  exact zk 8 rfl (WP.ret ⟨aa,_,rfl,.inl ⟨J,rfl,s,hd⟩⟩)
 refine zk 12 rfl (zC rfl aD (rfl) (zk 7 rfl (zc rfl (uJ hT (by omega) (by omega)) ?_)))
 rintro v h' ⟨rfl,rfl⟩
 refine zb rfl (by exact iX (aA (by omega) (by omega))) ?_
 refine zk 2 rfl (WP.block (WP.loop (zg rfl (zB rfl aN (by decide) ?_))))
 have I:dW (pg J 1) kd lk ow [M]:=by rw[hR.same fF];exact I
 refine zk 5 rfl (WP.block (zK 9 rfl (zc rfl (wS hT hR jh hN I hM (s.ae [1])) ?_)))
 rintro v h (⟨jH,rfl,s,hd⟩|⟨w2,u2,jH,rfl,mF,jC,s⟩)
 ·skip
  refine zk 12 rfl (zB rfl aD (by decide) ?_)
  exact zk 8 rfl (WP.ret ⟨aa,_,rfl,.inl ⟨jH,rfl,s.del 1,hd⟩⟩)
 refine zk 12 rfl (zC rfl aD (rfl) (zk 6 rfl (zo rfl (aP rfl rfl rfl (bj aT (s.aH (k:=0) rfl (bu _ _)))) ?_)))
 rw[hM]
 refine zk 2 rfl (WP.block ?_)
 refine Tm hT (s.buf (k:=0) rfl).view hM (by omega) qI h0 h1 (lo/8) 0 _ _ (by omega) ⟨rfl,rfl,rfl,rfl,rfl,aa⟩ (fun E' l2 l3=>⟨aa,_,uC l2 l3,.inr ⟨jH,rfl,mF,hR.tr fF jC,?_⟩⟩)
 exact((s.ae [2]).del 3 |>.del 2).del 1
theorem Qu (hT:W told)(hR:Gj told N lv dd sm rv A pg)(gj:lv ε)(hN:2≤N)(I:fW n R M (pg ε))(h1:∀j,j<n→bt M j=true)(s:Sat h (A ε::S)):
  Call ⟨Tryz.prog,told⟩ 51 [rv] h fun v h'=>(∃ah,v=.bf [.int .i64 0,.int .i64 9]∧Sat h' (A ah::S)∧dd ah)∨∃ah,v=.bf [.int .i64 (-1),.int .i64 0]∧lv ah∧sm ε ah∧Sat h' (A ah::S):=by
 obtain⟨ex,oI⟩:=I.head
 obtain⟨kd,lk,ow,J⟩:=I.marks
 have hM:=I.ml
 have qd:=I.n2
 have oz:=I.n1
 refine Call.of_wp (hT.free _ rfl) Tryz.func51 rfl rfl (zK 8 rfl (zc rfl (Ap hT hR gj (by omega) oI I.rl s) ?_))
 rintro v h (⟨nr,rfl,s,hd⟩|⟨u,nr,rfl,jh,fF,s⟩)
 ·skip
  refine zk 12 rfl (zB rfl aD (by decide) ?_)
  exact zk 8 rfl (WP.ret ⟨aa,_,rfl,.inl ⟨nr,rfl,s,hd⟩⟩)
 refine zk 12 rfl (zC rfl aD (rfl) (zk 7 rfl (zc rfl (uJ hT (by omega) (by omega)) ?_)))
 rintro v h' ⟨rfl,rfl⟩
 refine zb rfl (by exact iX (aA (by omega) (by omega))) ?_
 refine zk 2 rfl (WP.block (WP.loop (zg rfl (zB rfl aN (by decide) ?_))))
 have J:dW (pg nr 1) kd lk ow [M]:=by rw[hR.same fF];exact J
 refine zk 5 rfl (WP.block (zK 9 rfl (zc rfl (wS hT hR jh hN J hM (s.ae [1])) ?_)))
 rintro v h (⟨jH,rfl,s,hd⟩|⟨w2,u2,jH,rfl,mF,jC,s⟩)
 ·skip
  refine zk 12 rfl (zB rfl aD (by decide) ?_)
  exact zk 8 rfl (WP.ret ⟨aa,_,rfl,.inl ⟨jH,rfl,s.del 1,hd⟩⟩)
 refine zk 12 rfl (zC rfl aD (rfl) (zk 6 rfl (zo rfl (aP rfl rfl rfl (bj aT (s.aH (k:=0) rfl (bu _ _)))) ?_)))
 rw[hM]
 refine zk 2 rfl (WP.block ?_)
 refine Qt hT (s.buf (k:=0) rfl).view hM (by omega) h1 I.hi 375 0 _ _ (by omega) ⟨rfl,rfl,rfl,rfl,rfl,rfl,rfl,aa⟩ (fun E' hE => ?_)
 refine WP.has hE (zr rfl (zb rfl (by exact bx (aA (by omega) (by omega))) ?_))
 refine zm rfl (zv (WP.loop (zg rfl (zh rfl (az rfl rfl aN) (by decide) ?_))))
 exact zk 3 rfl (WP.exit (zK 5 rfl (WP.ret ⟨aa,_,rfl,.inr ⟨jH,rfl,mF,hR.tr fF jC,((s.ae [2]).del 3 |>.del 2).del 1⟩⟩)))
noncomputable def abI : Code:=cD [1,1,1,1,0,1,0,0,1,1,0,0,1,1,1,1,0,0] ((Tryz.f23.body).getD .skip)
theorem Qv (hT:W told)(hv:View h u M)(hM:M.length=375)(hn:n≤3000): ∀(m k:Nat) (E:List (Nat×V)) (Q:Ex→List (Nat×V)→H→Prop),k+m=375 →
  Has E [(7,.int .i64 ((n:Int)-(onesL (M.take k):Nat))),(26,.int .i64 1),(27,.int .i64 0),(40,u),(41,.int .i64 375),(42,.int .i64 (k:Int))] →
  (∀E',Has E' [(7,.int .i64 ((n:Int)-(onesL M:Nat))),(26,.int .i64 1),(27,.int .i64 0)]→Q (.exit 2) E' h)→WP ⟨Tryz.prog,told⟩ 53 (.loop abI) E h Q:=by
 intro m
 induction m with
 |zero =>
  intro k E Q hk J hq
  refine WP.loop (WP.has J (zg rfl (zC rfl aN (by grind) ?_)))
  refine zk 3 rfl (WP.exit ?_)
  refine hq _ ⟨?_,rfl,rfl,aa⟩
  rw[show M.take k=M from eW (by omega)]
  rfl
 |succ m ih =>
  intro k E Q hk J hq
  have I:M[k]?=some (M[k]'(by omega)):=bA _
  generalize (M[k]'(by omega))=x at I
  have hx:x<256:=hv.1 x (bI I)
  obtain⟨id,off,e1,e2⟩:=eo hv I
  have ht:=DU I
  have hle:=Tn (M.take k)
  have js:(M.take k).length≤375:=by grind
  have h8:=Jj x
  refine WP.loop (WP.has J (zg rfl (zB rfl aN (by grind) ?_)))
  refine zk 5 rfl (WP.block (zg rfl (zo rfl (cj (r:=.ptr id off) rfl rfl e1) (zl rfl e2 (zk 5 rfl (zc rfl (Tl hT hx) ?_))))))
  rintro v h' ⟨rfl,rfl⟩
  refine zb rfl (by exact iX (aA (by omega) (by omega))) ?_
  refine za rfl (zv (zr rfl (zb rfl (by exact bx (aA (by omega) (by omega))) ?_)))
  refine zm rfl (zv ?_)
  refine ih (k+1) _ Q (by omega) ⟨?_,rfl,rfl,rfl,rfl,rfl,aa⟩ hq
  exact iO (fun z=>some (V.int .i64 z)) (by omega)
theorem Wu (hT:W told)(hR:sO told N B rv A pg)(gj:EI N B ε)(hN:2≤N)(J:fW n R M (pg ε))(s:Sat h (A ε::S)):
  Call ⟨Tryz.prog,told⟩ 23 [rv] h fun v h'=>∃ah,v=.bf [.int .i64 ((n:Int)-(onesL M:Nat)),.int .i64 0]∧EI N B ah∧Sm N ε ah∧Sat h' (A ah::S):=by
 obtain⟨ex,oI⟩:=J.head
 obtain⟨kd,lk,ow,I⟩:=J.marks
 have hM:=J.ml
 have qd:=J.n2
 have oz:=J.n1
 refine Call.of_wp (hT.free _ rfl) Tryz.func23 rfl rfl (zK 8 rfl (zc rfl (Br hT hR gj (by omega) oI J.rl s) ?_))
 rintro v h ⟨u,nr,rfl,jh,fF,s⟩
 refine zk 12 rfl (zC rfl aD (rfl) (zk 12 rfl (zc rfl (uJ hT (by omega) (by omega)) ?_)))
 rintro v h' ⟨rfl,rfl⟩
 refine zb rfl (by exact iX (aA (by omega) (by omega))) ?_
 refine zk 2 rfl (WP.block (WP.loop (zg rfl (zB rfl aN (by decide) ?_))))
 have I:dW (pg nr 1) kd lk ow [M]:=by rw[hR.same fF];exact I
 refine zk 5 rfl (WP.block (zK 9 rfl (zc rfl (Jf hT hR jh hN I hM (s.ae [1])) ?_)))
 rintro v h ⟨w2,u2,jH,rfl,mF,jC,s⟩
 refine zk 12 rfl (zC rfl aD (rfl) (zk 6 rfl (zo rfl (aP rfl rfl rfl (bj aT (s.aH (k:=0) rfl (bu _ _)))) ?_)))
 rw[hM]
 refine zk 2 rfl (WP.block ?_)
 refine Qv hT (n:=n) (s.buf (k:=0) rfl).view hM (by omega) 375 0 _ _ (by omega) ⟨?_,rfl,rfl,rfl,rfl,rfl,aa⟩ (fun E' hE => ?_)
 ·rfl
 refine WP.has hE (zr rfl (zb rfl (by exact bx (aA (by omega) (by omega))) ?_))
 refine zm rfl (zv (WP.loop (zg rfl (zh rfl (az rfl rfl aN) (by decide) ?_))))
 exact zk 3 rfl (WP.exit (zK 6 rfl (WP.ret ⟨aa,_,rfl,jH,rfl,mF,fF.trans jC,((s.ae [2]).del 3 |>.del 2).del 1⟩)))
theorem Zc (hT:W told)(hR:Gj told N lv dd sm rv A pg)(gj:lv ε)(hN:2≤N)(hp:fW n R M (pg ε))(hi:i<n)(s:Sat h (A ε::S)):
  Call ⟨Tryz.prog,told⟩ 57 [rv,.int .i64 (i:Int)] h fun v h'=>(∃ah,v=.bf [.bool false,.int .i64 9]∧Sat h' (A ah::S)∧dd ah)∨∃ah,v=.bf [.bool (bt M i),.int .i64 0]∧lv ah∧sm ε ah∧Sat h' (A ah::S):=by
 obtain⟨kd,lk,ow,oA⟩:=hp.marks
 have hM:=hp.ml
 have qd:=hp.n2
 refine Call.of_wp (hT.free _ rfl) Tryz.func57 rfl rfl (zK 9 rfl (zo rfl (az (r:=.int .i64 0) rfl rfl (Np (by omega))) ?_))
 refine zc rfl (wS hT hR gj hN oA hM s) ?_
 rintro v h (⟨I,rfl,s,hd⟩|⟨w2,u2,I,rfl,J,jC,s⟩)
 ·skip
  refine zk 12 rfl (zB rfl aD (by decide) ?_)
  exact zk 8 rfl (WP.ret ⟨aa,_,rfl,.inl ⟨I,rfl,s,hd⟩⟩)
 have hb:M[i/8]?=some (M[i/8]'(by omega)):=bA _
 have nH:M.getD (i/8) 0=M[i/8]'(by omega):=by grind
 generalize (M[i/8]'(by omega))=x at hb nH
 have hv:=(s.buf (k:=0) rfl).view
 have hx:x<256:=hv.1 x (bI hb)
 have Aq:x.testBit (i%8)=bt M i:=by rw[bt,nH]
 obtain⟨id,off,e1,e2⟩:=eo hv hb
 have Uo:x/2^(i%8)<256:=D9 (AL _ _) hx
 refine zk 12 rfl (zC rfl aD (rfl) (zk 7 rfl (zb rfl (Nq (by omega)) ?_)))
 refine zb rfl (Bq (a:=i) (b:=8) (by decide) (by omega)) ?_
 refine zo rfl (cj (r:=.ptr id off) rfl rfl e1) (zl rfl e2 (zm rfl (zb rfl (Nq (by omega)) ?_)))
 refine zb rfl (Ce (a:=i) (b:=8) (by decide)) ?_
 refine zb rfl (Qo (a:=x) (k:=i%8) (by omega)) ?_
 refine zb rfl (Qp (b:=1) Uo (by decide)) ?_
 refine zo rfl (az (r:=.bool (bt M i)) rfl rfl (by rw[←Aq];exact Jk)) ?_
 exact zk 3 rfl (WP.ret ⟨aa,_,rfl,.inr ⟨I,rfl,J,jC,(s.ae [2]).del 2 |>.del 1⟩⟩)
end
def SA (a p q r:Nat)(op:V)(data:List Nat)(aB:Nat)(ε:aZ): aO:=star [eA a p q r op data aB,dK r p q ε.1,bS q p ε.2.1,aR p ε.2.2]
def GA (g a p q r:Nat)(data:List Nat)(aB:Nat)(now:List (Int×List Nat))(ε:aZ): aO:=star [gE g a now false,eA a p q r (.ptr g 0) data aB,dK r p q ε.1,bS q p ε.2.1,aR p ε.2.2]
def pgG (now:List (Int×List Nat))(ε:aZ)(n:Int): List Nat:=match lookL n now with
 |some b=>b
 |none=>pgA ε n
theorem Zd (h:Sm N ε ah): pgG now ah=pgG now ε:=by
 funext n
 unfold pgG
 rw[h.1]
theorem kr {i n:Int}: pgG (cG i b now) ε n=if i=n then b else pgG now ε n:=by
 grind[pgG,gD]
section
variable {told:dc} {p:Nat} {v op:V} {kd:Nat} {sm:aZ→aZ→Prop}
theorem Tp (hT:W told)(hB:B≤2000): sO told N B (.iface 24 (.ptr a 0)) (SA a p q r op data aB) pgA:=by
 refine⟨⟨_,_,_,rfl,V1,fun {h S ε n} I h0 h1 s => ?_⟩,fun hs=>hs.1⟩
 have uD:=I.bG
 have BR:=kF (ε:=ε)
 have s:=br.1 s
 refine(Ci hT (n:=n) s I.ok.ok I.ok.pins (by omega)).mono ?_
 rintro v h ⟨e,b,ah,J,hs⟩
 obtain⟨k1,k2,k3,k4⟩:=J.ec I.ec I.ok.pins
 obtain⟨rfl,rfl⟩:=k3 h0 h1
 rcases hs with⟨he,_⟩|⟨_,u,rfl,s⟩
 ·omega
 ·have s2:Sat h (SA a p q r op data aB ah::aV u (pgA ε n)::S):=br.2 (s.ae [1,1,1,1,0])
  exact⟨u,ah,rfl,I.rd J,⟨k2,fun P hP hv=>hP.rd J I.ec hv,J.bG⟩,s2.ae [1]⟩
theorem abJ (hT:W told)(hB:B≤2000)(hw:NW N now): sO told N B (.iface 26 (.ptr g 0)) (GA g a p q r data aB now) (pgG now):=by
 refine⟨⟨_,_,_,rfl,Bj,fun {h S ε n} I h0 h1 s => ?_⟩,fun hs m=>by rw[Zd hs]⟩
 have uD:=I.bG
 have BR:=kF (ε:=ε)
 have s:=br.1 s
 refine(xN hT (n:=n) s I.ok (by omega) (fun e he=>eC (hw.good e he).1)).mono ?_
 rintro v h ⟨e,b,ah,J,hs⟩
 obtain⟨k1,k2,k3,k4⟩:=J.ec I.ec I.ok.pins
 obtain⟨rfl,hb⟩:=k3 h0 h1
 have hb:b=pgG now ε n:=hb
 subst hb
 rcases hs with⟨he,_⟩|⟨_,u,rfl,s⟩
 ·omega
 ·have s2:Sat h (GA g a p q r data aB now ah::aV u (pgG now ε n)::S):=br.2 (s.ae [1,1,1,1,1,0])
  exact⟨u,ah,rfl,I.qh J,⟨k2,fun P hP hv=>hP.qh J I.ec hv,J.bG⟩,s2.ae [1]⟩
theorem Nr (hT:W told)(hB:B≤2000)(I:EI N B ε)(hw:NW N now)(hi:i<N)(s:Sat h (GA g a p q r data aB now ε::X::S))(hX:cQ X (cW x b))(hp:dW b kd link extra cs):
  Call ⟨Tryz.prog,told⟩ 49 [.ptr g 0,.int .i64 (i:Int),x] h fun v h'=>∃ah,v=.int .i64 0∧EI N B ah∧Sm N ε ah∧NW N (cG (i:Int) b now)∧Sat h' (GA g a p q r data aB (cG (i:Int) b now) ah::X::S):=by
 have uD:=I.bG
 have BR:=kF (ε:=ε)
 have hlen:=hp.len
 have hb:=(s.aH (k:=1) rfl hX).1
 have s:=br.1 s
 refine(F1 hT (n:=(i:Int)) s hX (by omega) I.ok (by omega) (fun e he=>eC (hw.good e he).1)).mono ?_
 rintro v h ⟨e,bR,ah,J,rfl,s⟩
 obtain⟨k1,k2,k3,k4,k5⟩:=J.ec I.ec I.ok.pins
 obtain⟨rfl,rfl⟩:=k5 (by omega) (by omega) hp.good
 exact⟨ah,rfl,I.yu J,⟨k2,fun P hP hv=>hP.yu J I.ec hv,J.bG⟩,hw.put (by omega) (by omega) hp.good hb,br.2 s⟩
structure Mo (told:dc)(N:Nat)(lv dd:aZ→Prop)(sm:aZ→aZ→Prop): Prop where
 rf:∀a:aZ,sm a a
 tr:∀ {a b c:aZ},sm a b→sm b c→sm a c
 pg:∀ {a b:aZ},sm a b→∀m,pgA b m=pgA a m
 gr:∀ {g a p q r aB:Nat} {data:List Nat} {now:List (Int×List Nat)},NW N now→Gj told N lv dd sm (.iface 26 (.ptr g 0)) (GA g a p q r data aB now) (pgG now)
 gw:∀ {h:H} {S:List aO} {X:aO} {g a p q r aB i kd link extra:Nat} {data b:List Nat} {now:List (Int×List Nat)} {x:V} {cs:List (List Nat)} {ε:aZ},lv ε→NW N now→i<N→Sat h (GA g a p q r data aB now ε::X::S)→cQ X (cW x b)→dW b kd link extra cs →
  Call ⟨Tryz.prog,told⟩ 49 [.ptr g 0,.int .i64 (i:Int),x] h fun v h'=>(∃ah,v=.int .i64 9∧Sat h' (GA g a p q r data aB now ah::X::S)∧dd ah)∨∃ah,v=.int .i64 0∧lv ah∧sm ε ah∧NW N (cG (i:Int) b now)∧Sat h' (GA g a p q r data aB (cG (i:Int) b now) ah::X::S)
 dr:∀ {h:H} {S:List aO} {g a p q r aB:Nat} {data:List Nat} {now:List (Int×List Nat)} {ε:aZ} {n:Int},dd ε→NW N now→Sat h (GA g a p q r data aB now ε::S) →
  Call ⟨Tryz.prog,told⟩ 76 [.ptr g 0,.int .i64 n] h fun v h'=>∃(w:V) (e:Int) (ah:aZ),v=.bf [w,.int .i64 e]∧dd ah∧Sat h' (GA g a p q r data aB now ah::S)
theorem Mo.live (J:W told)(hB:B≤2000): Mo told N (EI N B) noD (Sm N) :=
 ⟨Sm.refl N,Sm.trans,fun h=>h.1,fun hw=>(abJ J hB hw).m,fun I hw hi s hX hp=>(Nr J hB I hw hi s hX hp).mono fun _ _ k=>.inr k,fun hd=>hd.elim⟩
theorem Mo.pgG (I:Mo told N lv dd sm)(h:sm ε ah): Am.pgG now ah=Am.pgG now ε:=by
 funext n
 unfold Am.pgG
 rw[I.pg h]
def Qw (N g a p q r:Nat)(data:List Nat)(aB:Nat)(dd:aZ→Prop)(S:List aO)(h:H): Prop:=∃(ε:aZ) (now:List (Int×List Nat)),NW N now∧Sat h (GA g a p q r data aB now ε::S)∧dd ε
theorem fW.put {P:Int→List Nat}(h:fW N R M P){I:List Nat}(J:P' 0=P 0)(h1:∃kd lk ex,dW (P' 1) kd lk ex [I])(hl:I.length=375)(ho:∀j,j<2→bt I j=true)(hh:∀j,N≤j→bt I j=false): fW N R I P' :=
 ⟨by rw[J];exact h.head,h.rl,h1,hl,h.n1,h.n2,ho,hh⟩
theorem yg {i:Int}: ∀ {now:List (Int×List Nat)},(cG i b now).length≤now.length+1:=by
 intro now
 induction now<;>grind[cG]
theorem Qx (hT:W told)(hM:Mo told N lv dd sm)(gj:lv ε)(hw:NW N now)(hp:fW N R M (pgG now ε))(hi:i<N)(jv:2≤i){bl:Bool}(s:Sat h (GA g a p q r data aB now ε::S)):
  Call ⟨Tryz.prog,told⟩ 52 [.ptr g 0,.int .i64 (i:Int),.bool bl] h fun v h'=>(v=.int .i64 9∧Qw N g a p q r data aB dd S h')∨∃ah bR,v=.int .i64 0∧lv ah∧sm ε ah∧NW N bR∧bR.length≤now.length+1∧fW N R (if bl then BY M i else DT M i) (pgG bR ah)∧(∀m,m≠1→pgG bR ah m=pgG now ε m) ∧
   Sat h' (GA g a p q r data aB bR ah::S):=by
 obtain⟨kd,lk,ow,oA⟩:=hp.marks
 have Ze:=hp.ml
 have qd:=hp.n2
 have hi8:i/8<M.length:=by omega
 have hb:M[i/8]?=some (M[i/8]'(by omega)):=bA _
 have nH:M.getD (i/8) 0=M[i/8]'(by omega):=by grind
 generalize (M[i/8]'(by omega))=z at hb nH
 -- what is so behind it
 have fin:∀ {ah:aZ} {b':List Nat} {M':List Nat},sm ε ah→dW b' kd lk ow [M']→M'.length=375→(∀j,bt M' j=if j=i then bl else bt M j)→fW N R M' (pgG (cG 1 b' now) ah)∧(∀m,m≠1→pgG (cG 1 b' now) ah m=pgG now ε m):=fun {ah b' M'} hs I hl Aq =>
  ⟨hp.put (by rw[kr,ak (by decide),hM.pgG hs]) ⟨_,_,_,by rw[kr,aJ rfl];exact I⟩ hl (fun j hj=>by rw[Aq,ak (by omega)];exact hp.own j hj) (fun j hj=>by rw[Aq,ak (by omega)];exact hp.hi j hj),
   fun m hm=>by rw[kr,ak (by omega),hM.pgG hs]⟩
 refine Call.of_wp (hT.free _ rfl) Tryz.func52 rfl rfl (zK 7 rfl (zo rfl (rL rfl (mki_of mo rfl)) (zm rfl (zo rfl (az (r:=.int .i64 0) rfl rfl (Np (by omega))) ?_))))
 refine zc rfl (wS hT (hM.gr hw) gj (by omega) oA Ze s) ?_
 rintro v h (⟨jH,rfl,s,hd⟩|⟨w2,u2,jH,rfl,mF,jC,s⟩)
 ·skip
  refine zk 12 rfl (zB rfl aD (by decide) ?_)
  exact zk 7 rfl (WP.ret ⟨aa,_,rfl,.inl ⟨rfl,jH,now,hw,s,hd⟩⟩)
 have hv:=(s.buf (k:=0) rfl).view
 have hz:z<256:=hv.1 z (bI hb)
 have h2k:2^(i%8)<256:=vS (a:=2) (n:=8) (by decide) (by omega)
 obtain⟨id,off,e1,e2⟩:=eo hv hb
 refine zk 12 rfl (zC rfl aD (rfl) (zk 6 rfl (zb rfl (Nq (by omega)) ?_)))
 refine zb rfl (Ce (a:=i) (b:=8) (by decide)) ?_
 refine zb rfl (Za (k:=i%8) (by omega)) ?_
 refine zk 6 rfl (zb rfl (Nq (by omega)) ?_)
 refine zb rfl (Bq (a:=i) (b:=8) (by decide) (by omega)) ?_
 refine zk 6 rfl ?_
 cases bl with
 |true =>
  obtain⟨Jl,Jm,e3,h4,e4,s2⟩:=lD s (i:=i/8) (b:=Nat.lor z (2^(i%8))) (by omega) (Qn hz (by omega))
  have ee:V.ptr id off=V.ptr Jl Jm:=by grind
  rw[←ee] at e4
  refine zK 4 rfl (zo rfl (cj (r:=.ptr id off) rfl rfl e1) (zl rfl e2 (zm rfl (zb rfl (aaF hz (by omega)) ?_))))
  refine zo rfl (cj (r:=.ptr id off) rfl rfl e1) (zS rfl (⟨h4,e4,s2⟩) ?_)
  rintro h s
  rw[←nH] at s
  have s:Sat h (aV u2 (BY M i)::_):=s
  refine zk 6 rfl (zc rfl (E8 (i:=0) (c:=M) hT (s.ae [1,0]) (bu _ _) (bu _ _) oA rfl LB) ?_)
  rintro v h ⟨w3,b',rfl,I,s⟩
  refine zk 9 rfl (zC rfl aD (rfl) (zk 7 rfl (zo rfl (az (r:=.int .i64 0) rfl rfl (Np (by omega))) ?_)))
  refine zb rfl (by exact bx (aA (by omega) (by omega))) ?_
  refine zm rfl (zc rfl (hM.gw (i:=1) mF hw (by omega) (s.ae [3,0]) (bu _ _) I) ?_)
  rintro v h (⟨J,rfl,s,hd⟩|⟨J,rfl,vr,mS,uK,s⟩)
  ·skip
   exact zk 2 rfl (WP.ret ⟨aa,_,rfl,.inl ⟨rfl,J,now,hw,((s.ae [0]).del 3 |>.del 2).del 1,hd⟩⟩)
  refine zk 2 rfl (WP.ret ⟨aa,_,rfl,?_⟩)
  obtain⟨f1,f2⟩:=fin (hM.tr jC mS) I (by rw[LB];exact Ze) (fun j=>UP hi8)
  exact .inr ⟨J,_,rfl,vr,hM.tr jC mS,uK,yg,f1,f2,((s.ae [0]).del 3 |>.del 2).del 1⟩
 |false =>
  obtain⟨Jl,Jm,e3,h4,e4,s2⟩:=lD s (i:=i/8) (b:=Nat.land z (255-2^(i%8))) (by omega) (E9 hz)
  have ee:V.ptr id off=V.ptr Jl Jm:=by grind
  rw[←ee] at e4
  refine zK 4 rfl (zo rfl (cj (r:=.ptr id off) rfl rfl e1) (zl rfl e2 (zm rfl (zb rfl (Qq hz h2k) (zo rfl (cj (r:=.ptr id off) rfl rfl e1) (zS rfl (⟨h4,e4,s2⟩) ?_))))))
  rintro h s
  rw[←nH] at s
  have s:Sat h (aV u2 (DT M i)::_):=s
  refine zk 6 rfl (zc rfl (E8 (i:=0) (c:=M) hT (s.ae [1,0]) (bu _ _) (bu _ _) oA rfl LC) ?_)
  rintro v h ⟨w3,b',rfl,I,s⟩
  refine zk 9 rfl (zC rfl aD (rfl) (zk 7 rfl (zo rfl (az (r:=.int .i64 0) rfl rfl (Np (by omega))) ?_)))
  refine zb rfl (by exact bx (aA (by omega) (by omega))) ?_
  refine zm rfl (zc rfl (hM.gw (i:=1) mF hw (by omega) (s.ae [3,0]) (bu _ _) I) ?_)
  rintro v h (⟨J,rfl,s,hd⟩|⟨J,rfl,vr,mS,uK,s⟩)
  ·skip
   exact zk 2 rfl (WP.ret ⟨aa,_,rfl,.inl ⟨rfl,J,now,hw,((s.ae [0]).del 3 |>.del 2).del 1,hd⟩⟩)
  refine zk 2 rfl (WP.ret ⟨aa,_,rfl,?_⟩)
  obtain⟨f1,f2⟩:=fin (hM.tr jC mS) I (by rw[LC];exact Ze) (fun j=>UQ hi8)
  exact .inr ⟨J,_,rfl,vr,hM.tr jC mS,uK,yg,f1,f2,((s.ae [0]).del 3 |>.del 2).del 1⟩
theorem LG (hT:W told)(J:Mo told N lv dd sm)(gj:lv ε)(hw:NW N now)(hp:fW N R M (pgG now ε))(qI:lo<N)(h0:bt M lo=false)(h1:∀j,j<lo→bt M j=true)(s:Sat h (GA g a p q r data aB now ε::S)):
  Call ⟨Tryz.prog,told⟩ 22 [.ptr g 0] h fun v h'=>(v=.bf [.int .i64 0,.int .i64 9]∧Qw N g a p q r data aB dd S h')∨∃ah bR,v=.bf [.int .i64 (lo:Int),.int .i64 0]∧lv ah∧sm ε ah∧NW N bR∧bR.length≤now.length+2∧fW N R (BY M lo) (pgG bR ah)∧(∀m,m≠1→m≠(lo:Int)→pgG bR ah m=pgG now ε m)∧dW (pgG bR ah lo) 0 0 0 []∧pgG bR ah lo=pJ 0 ∧
   Sat h' (GA g a p q r data aB bR ah::S):=by
 have oz:=hp.n1
 have h2:2≤lo:=by
  rcases tD lo 2 with hq|hq
  ·rw[hp.own lo hq] at h0;cases h0
  ·exact hq
 refine Call.of_wp (hT.free _ rfl) Tryz.func22 rfl rfl (zK 8 rfl (zo rfl (rL rfl (mki_of mo rfl)) (zc rfl (To hT (J.gr hw) gj (by omega) hp qI h0 h1 s) ?_)))
 rintro v h (⟨nr,rfl,s,hd⟩|⟨nr,rfl,jh,fF,s⟩)
 ·skip
  refine zk 7 rfl (WP.block (zK 3 rfl (zB rfl aD (by decide) ?_)))
  exact zk 9 rfl (WP.ret ⟨aa,_,rfl,.inl ⟨rfl,nr,now,hw,s,hd⟩⟩)
 have oA:fW N R M (pgG now nr):=by rw[J.pgG fF];exact hp
 refine zk 7 rfl (WP.block (zK 3 rfl (zC rfl aD (rfl) (zk 6 rfl (zC rfl aN (by simp) ?_)))))
 refine za rfl (zv (zj rfl (WP.skip (zw (zg rfl (zk 2 rfl (zc rfl (Qx (bl:=true) hT J jh hw oA qI h2 s) ?_)))))))
 rintro v h (⟨rfl,hd⟩|⟨jH,yh,rfl,mF,jC,DI,js,I,FY,s⟩)
 ·skip
  refine zk 5 rfl (zB rfl aD (by decide) ?_)
  exact zk 8 rfl (WP.ret ⟨aa,_,rfl,.inl ⟨rfl,hd⟩⟩)
 refine za rfl (zv (zg rfl (zm rfl (zh rfl (az rfl rfl aD) (rfl) (zv (zj rfl (WP.skip (zg rfl (zc rfl (Gi (kd:=0) hT s (by decide)) ?_)))))))))
 rintro v h ⟨u,rfl,s⟩
 have ot:dW (pJ 0) 0 0 0 []:=dW.new (k:=0)
 generalize hbn:pJ 0=b' at s ot
 refine zk 12 rfl (zc rfl (J.gw (i:=lo) mF DI qI (s.ae [1,0]) (bu _ _) ot) ?_)
 rintro v h (⟨tu,rfl,s,hd⟩|⟨tu,rfl,vr,mS,uK,s⟩)
 ·skip
  refine zk 5 rfl (zB rfl aD (by decide) ?_)
  exact zk 8 rfl (WP.ret ⟨aa,_,rfl,.inl ⟨rfl,tu,yh,DI,s.del 1,hd⟩⟩)
 refine zk 5 rfl (zC rfl aD (rfl) (zk 9 rfl (WP.ret ⟨aa,_,rfl,?_⟩)))
 have I:fW N R (BY M lo) (pgG yh jH):=I
 refine .inr ⟨tu,_,rfl,vr,J.tr (J.tr fF jC) mS,uK,bT yg (by omega),I.put (by rw[kr,ak (by omega),J.pgG mS]) ?_ I.ml I.own I.hi,fun m u9 qL=>by rw[kr,ak (by omega),J.pgG mS,FY m u9,J.pgG fF],by grind[kr],by rw[kr,aJ rfl],s.del 1⟩
 rw[kr,ak (by omega),J.pgG mS]
 exact I.marks
theorem Qy (hT:W told)(hB:B≤2000)(I:EI N B ε)(hw:NW N now)(hp:fW N R M (pgG now ε))(J:lo<N)(h0:bt M lo=false)(h1:∀j,j<lo→bt M j=true)(s:Sat h (GA g a p q r data aB now ε::S)):
  Call ⟨Tryz.prog,told⟩ 22 [.ptr g 0] h fun v h'=>∃ah bR,v=.bf [.int .i64 (lo:Int),.int .i64 0]∧EI N B ah∧Sm N ε ah∧NW N bR∧bR.length≤now.length+2∧fW N R (BY M lo) (pgG bR ah)∧(∀m,m≠1→m≠(lo:Int)→pgG bR ah m=pgG now ε m)∧dW (pgG bR ah lo) 0 0 0 []∧pgG bR ah lo=pJ 0 ∧
   Sat h' (GA g a p q r data aB bR ah::S) :=
 (LG hT (Mo.live hT hB) I hw hp J h0 h1 s).mono fun _ _ k=>k.resolve_left fun⟨_,_,_,_,_,q⟩=>q
theorem Tq (hT:W told)(hB:B≤2000)(I:EI N B ε)(hw:NW N now)(hp:fW N R M (pgG now ε))(J:lo<N)(h0:bt M lo=false)(h1:∀j,j<lo→bt M j=true)(s:Sat h (GA g a p q r data aB now ε::S)):
  Call ⟨Tryz.prog,told⟩ 22 [.ptr g 0] h fun v h'=>∃ah bR,v=.bf [.int .i64 (lo:Int),.int .i64 0]∧EI N B ah∧Sm N ε ah∧NW N bR∧fW N R (BY M lo) (pgG bR ah)∧(∀m,m≠1→m≠(lo:Int)→pgG bR ah m=pgG now ε m)∧dW (pgG bR ah lo) 0 0 0 [] ∧
   Sat h' (GA g a p q r data aB bR ah::S) :=
 (Qy hT hB I hw hp J h0 h1 s).mono fun v h' ⟨ah,bR,e,a1,a2,a3,_,a4,a5,a6,_,a7⟩=>⟨ah,bR,e,a1,a2,a3,a4,a5,a6,a7⟩
theorem Tr (hT:W told)(hM:Mo told N lv dd sm)(gj:lv ε)(hw:NW N now)(hp:fW N R M (pgG now ε))(h1:∀j,j<N→bt M j=true)(s:Sat h (GA g a p q r data aB now ε::S)):
  Call ⟨Tryz.prog,told⟩ 22 [.ptr g 0] h fun v h'=>(v=.bf [.int .i64 0,.int .i64 9]∧Qw N g a p q r data aB dd S h')∨∃ah,v=.bf [.int .i64 0,.int .i64 7]∧lv ah∧sm ε ah∧Sat h' (GA g a p q r data aB now ah::S):=by
 have oz:=hp.n1
 refine Call.of_wp (hT.free _ rfl) Tryz.func22 rfl rfl (zK 8 rfl (zo rfl (rL rfl (mki_of mo rfl)) (zc rfl (Qu hT (hM.gr hw) gj (by omega) hp h1 s) ?_)))
 rintro v h (⟨I,rfl,s,hd⟩|⟨I,rfl,J,fF,s⟩)
 ·skip
  refine zk 7 rfl (WP.block (zK 3 rfl (zB rfl aD (by decide) ?_)))
  exact zk 9 rfl (WP.ret ⟨aa,_,rfl,.inl ⟨rfl,I,now,hw,s,hd⟩⟩)
 refine zk 7 rfl (WP.block (zK 3 rfl (zC rfl aD (rfl) (zk 6 rfl (zB rfl aN (by decide) ?_)))))
 exact zk 8 rfl (WP.ret ⟨aa,_,rfl,.inr ⟨I,rfl,J,fF,s⟩⟩)
theorem Wv (hT:W told)(hM:Mo told N lv dd sm)(gj:lv ε)(hw:NW N now)(hp:fW N R M (pgG now ε)){i:Int}(s:Sat h (GA g a p q r data aB now ε::S)):
  Call ⟨Tryz.prog,told⟩ 24 [.ptr g 0,.int .i64 i] h fun v h'=>(v=.int .i64 9∧Qw N g a p q r data aB dd S h')∨∃ah bR,lv ah∧sm ε ah∧NW N bR∧bR.length≤now.length+1∧Sat h' (GA g a p q r data aB bR ah::S) ∧
   ((¬(2≤i∧i<N∧bt M i.toNat=true)∧v=.int .i64 18∧bR=now)∨(2≤i∧i<N∧bt M i.toNat=true∧v=.int .i64 0∧fW N R (DT M i.toNat) (pgG bR ah)∧∀m,m≠1→pgG bR ah m=pgG now ε m)):=by
 obtain⟨ex,oI⟩:=hp.head
 have oz:=hp.n1
 have qd:=hp.n2
 refine Call.of_wp (hT.free _ rfl) Tryz.func24 rfl rfl (zK 7 rfl (zo rfl (rL rfl (mki_of mo rfl)) (zc rfl (Ap hT (hM.gr hw) gj (by omega) oI hp.rl s) ?_)))
 rintro v h (⟨nr,rfl,s,hd⟩|⟨u,nr,rfl,jh,J,s⟩)
 ·skip
  refine zk 9 rfl (WP.block (zK 3 rfl (zB rfl aD (by decide) ?_)))
  exact zk 8 rfl (WP.ret ⟨aa,_,rfl,.inl ⟨rfl,nr,now,hw,s,hd⟩⟩)
 have oA:fW N R M (pgG now nr):=by rw[hM.pgG J];exact hp
 refine zk 9 rfl (WP.block (zK 3 rfl (zC rfl aD (rfl) (zk 7 rfl (zc rfl (uJ hT (by omega) (by omega)) ?_)))))
 rintro v h' ⟨rfl,rfl⟩
 by_cases qI:i<2
 ·skip
  refine zB rfl aN (by grind) ?_
  exact zk 12 rfl (WP.ret ⟨aa,_,rfl,.inr ⟨nr,now,jh,J,hw,kj _,s.drop,.inl ⟨by omega,rfl,rfl⟩⟩⟩)
 ·skip
  refine zC rfl aN (by grind) ?_
  refine zk 3 rfl ?_
  by_cases hhi:(N:Int)≤i
  ·skip
   refine zB rfl jJ (by grind) ?_
   exact zk 8 rfl (WP.ret ⟨aa,_,rfl,.inr ⟨nr,now,jh,J,hw,kj _,s.drop,.inl ⟨by omega,rfl,rfl⟩⟩⟩)
  ·skip
   refine zC rfl jJ (by grind) ?_
   obtain⟨k,rfl⟩:∃k:Nat,i=k:=⟨i.toNat,by omega⟩
   refine zk 2 rfl (zv (zj rfl (WP.skip (zg rfl (zm rfl (zo rfl (rL rfl (mki_of mo rfl)) (zm rfl (zc rfl (Zc (i:=k) hT (hM.gr hw) jh (by omega) oA (by omega) (s.ae [1])) ?_))))))))
   rintro v h (⟨jH,rfl,s,hd⟩|⟨jH,rfl,mF,jC,s⟩)
   ·skip
    refine zk 7 rfl (WP.block (zK 3 rfl (zB rfl aD (by decide) ?_)))
    exact zk 8 rfl (WP.ret ⟨aa,_,rfl,.inl ⟨rfl,jH,now,hw,s.del 1,hd⟩⟩)
   have Ux:fW N R M (pgG now jH):=by rw[hM.pgG jC];exact oA
   refine zk 7 rfl (WP.block (zK 3 rfl (zC rfl aD (rfl) (zk 6 rfl (zo rfl (dQ rfl rfl) (zk 2 rfl ?_))))))
   cases hb:bt M k with
   |false =>
    exact zK 5 rfl (WP.ret ⟨aa,_,rfl,.inr ⟨jH,now,mF,hM.tr J jC,hw,kj _,s.del 1,.inl ⟨fun⟨_,_,q⟩=>(by grind),rfl,rfl⟩⟩⟩)
   |true =>
    refine zj rfl (WP.skip (zg rfl (zk 2 rfl (zc rfl (Qx (bl:=false) hT hM mF hw Ux (i:=k) (by omega) (by omega) s) ?_))))
    rintro v h (⟨rfl,tu,I,uK,s,hd⟩|⟨tu,I,rfl,vr,mS,uK,hl3,hp3,ho3,s⟩)
    ·skip
     exact zk 2 rfl (WP.ret ⟨aa,_,rfl,.inl ⟨rfl,tu,I,uK,s.del 1,hd⟩⟩)
    refine zk 2 rfl (WP.ret ⟨aa,_,rfl,?_⟩)
    have hp3:fW N R (DT M k) (pgG I tu):=hp3
    exact .inr ⟨tu,I,vr,hM.tr (hM.tr J jC) mS,uK,hl3,s.del 1,.inr ⟨by omega,by omega,by grind,rfl,by grind,fun m hm=>by rw[ho3 m hm,hM.pgG jC,hM.pgG J]⟩⟩
end
theorem Ww (h:n<128): (digits 9 n).length=1:=by
 grind[digits]
theorem LH (h:n<16384): (digits 9 n).length≤2:=by
 grind[digits]
theorem Cq {c:cn}(I:c.aK.toNat<16384)(J:c.pos.toNat<16384)(h3:c.b.length<16384): (kD c).length≤7+c.b.length:=by
 grind[LH,kD]
theorem Wx {pg:Int}{now:List Nat}{l:List cn}(I:uA pg d_ now i l)(hn:now.length=512)(hp:pg.toNat<16384): ∀j,(∀k,i≤k→k<j→d_[k]?=now[k]?)→j≤520→(l.flatMap kD).length≤520-max i j:=by
 induction I with
 |done i h=>simp
 |skip i l h he I ih =>
  grind
 |take i e l h1 h2 h3 h4 I ih =>
  intro j hj hj2
  have Ft:j≤i:=AG fun J=>h3 (hj i (aU _) J)
  have h5:=ih (e+8) h4 (by omega)
  have hl:((now.take e).drop i).length=e-i:=by grind
  have h6:=Cq (c:=⟨pg,i,false,(now.take e).drop i⟩) hp (by grind) (by grind)
  rw[vV,bO]
  simp only[hl] at h6
  omega
theorem Wy {pg:Int}{now:List Nat}{c:List cn}(I:F3 pg d_ now c)(J:now.length=512)(hp:pg.toNat<16384): (c.flatMap kD).length≤520:=by
 obtain⟨l,hl,rfl⟩:=I
 have:=Wx hl J hp 0 (fun k _ h=>absurd h (by omega)) (by omega)
 grind[Cq]
theorem ChR.YT {l:List Int}{cs:List cn}(J:ChR now l ε e cs ah)(hn:NW N now): (∀n∈l,n.toNat<16384)→(cs.flatMap kD).length≤520*l.length:=by
 induction J with
 |nil ε=>simp
 |err n l ε e b ah J he=>simp
 |part n l ε d_ b ah c e cs I J hb jB hc kz ht ih =>
  intro hl
  have h1:=Wy hc (eC (hn.look hb).1) (hl n b7)
  grind
 |whole n l ε d_ b ah e cs I J hb jB ht ih =>
  have ot:=eC (hn.look hb).1
  grind[Cq]
theorem yj {L:Nat}{cs:List cn}{kd:Int}(hr:ChR now (aE now) ε e cs ah)(I:NW N now)(hL:now.length≤L)(hN:N≤16384)(ht:tx<16384): (dy kd tx 0 0 [] cs).length≤520*L+20:=by
 have h2:=LH ht
 have h4:=Ww (n:=([]:List Nat).length) (by decide)
 have h5:=Kn cs.length
 have h6:=hr.YT I fun n hm=>by have:=I.keys n (fu.1 hm);omega
 have J:(aE now).length≤L:=by
  rw[aE,(eF _).length_eq,jw];exact hL
 have J:=Nat.mul_le_mul_left 520 J
 simp only[dy,bO,aX,cI] at h4 ⊢
 omega
theorem rH (K M:Nat): jV fun x=>x.2.log.length=K∧x.2.room=M:=by
 refine⟨fun x n h => ?_,fun x n b h => ?_⟩
 ·unfold aI Dk.cq
  split
  ·exact h
  ·split
   ·exact h
   ·split
    ·exact h
    ·split<;>first|exact h|exact h
 ·unfold Dk.bw
  split
  ·exact h
  ·split
   ·exact h
   ·split<;>exact h
def vt (K M:Nat)(ε:aZ): Prop:=ε.2.2.log.length≤K∧ε.2.2.room=M
theorem vt.sm {M:Nat}(h:vt K M ε)(hs:Sm N ε ah): vt K M ah:=by
 have:=hs.2.1 _ ((rH ε.2.2.log.length ε.2.2.room).kI N) ⟨rfl,rfl⟩
 exact⟨by rw[this.1];exact h.1,by rw[this.2];exact h.2⟩
theorem DnR.fits {M L kd:Nat}(hr:DnR ε now kd tx 0 0 [] 0 aM e cl ah)(gj:EI N B ε)(hB:B≤1000)(hw:NW N now)(hL:now.length≤L)(hN:N≤1024)(h1:1≤kd)(h2:kd≤7)(FW:tx<16384)(hd:vt K M ε)(hf:K+520*L+28≤M):
  cl=true∧e=0∧vt (K+520*L+28) M ah:=by
 have Mn:∀n∈aE now,0≤n∧n<N:=fun n hq=>hw.keys n (fu.1 hq)
 obtain⟨hK,hM⟩:=hd
 have Ns:=gj.done hB hw (by omega) (by omega) hr
 cases hr with
 |arg hh=>omega
 |dead _ _ _ hd=>omega
 |kf e c ah _ _ _ _ J Iw=>exact absurd (J.ec gj.ec gj.ok Mn).2.2 Iw
 |app c I _ _ _ _ J Iw =>
  have va:=yj (kd:=kd) J hw hL (by omega) FW
  have ac8:=yj (kd:=kd) J hw hw.len (by omega) FW
  have hP:=(rH ε.2.2.log.length ε.2.2.room).ch J ⟨rfl,rfl⟩
  grind[ff,cA,pz]
 |put c I e tu _ _ _ _ J ha hp =>
  rcases Ns with⟨kz,_⟩|⟨_,he,_⟩
  ·grind
  ·refine⟨rfl,he,?_⟩
   have va:=yj (kd:=kd) J hw hL (by omega) FW
   have hP:=(rH ε.2.2.log.length ε.2.2.room).ch J ⟨rfl,rfl⟩
   rcases ff I.2 kd tx 0 0 [] c with⟨e,he,wo,hq⟩|⟨_,Zf,hq⟩|⟨_,hb,uQ,fA,Zf,hq⟩
   ·grind
   ·grind
   ·rw[hq] at hp
    have ku:=(rH (ε.2.2.log.length+(cA I.2.1 kd tx 0 0 [] c).length) ε.2.2.room).pt hp ⟨by grind,hP.2⟩
    have h3:(cA I.2.1 kd tx 0 0 [] c).length≤520*L+28:=by rw[cA,pz];omega
    exact⟨by omega,by omega⟩
def sdep : Code→Nat
 |.seq a b=>1+max (sdep a) (sdep b)
 |_=>1
def WPd (C:fH)(au:Nat)(code:Code)(E:List (Nat×V))(h:H)(d:rU)(Q:Ex→List (Nat×V)→H→rU→Prop): Prop :=
 ∀env,jI env E→∃N0 ex I h' E' J,(∀N m,N0≤N→sdep code≤m→evTop C N m code ⟨env,au,h⟩ d=some (ex,⟨I,au,h'⟩,J))∧jI I E'∧Q ex E' h' J
section
variable {au:Nat} {Q:Ex→List (Nat×V)→H→rU→Prop}
def noDef : List Oper→Bool
 |[]=>true
 |o::l=>(match o.op with
  |.defer _=>false
  |_=>true)&&noDef l
def noDefC : Code→Bool
 |.seq a b=>noDefC a&&noDefC b
 |.region _ ops false=>noDef ops.toList
 |_=>true
theorem Qz {self:Self}{L:List Oper}: ∀ {l:List Oper} {s s':St},noDef l=true→evOps C self L l s=some s'→evOpsD C self L l s d=some (s',d):=by
 intro l
 induction l<;>grind[evOps,noDef,evOpsD]
theorem evTop_of : ∀ {code:Code} {n:Nat} {s:St} {ex:Ex} {s':St} {d:rU},noDefC code=true→ev C n code s=some (ex,s')→∀N m,n≤N→sdep code≤m→evTop C N m code s d=some (ex,s',d):=by
 have leaf:∀ {code:Code} {n:Nat} {s:St} {ex:Ex} {s':St} {d:rU} {N m:Nat},(∀m,evTop C N (m+1) code s d=match ev C N code s with
   |some (ex,s')=>some (ex,s',d)
   |none=>none)→ev C n code s=some (ex,s')→n≤N→1≤m→evTop C N m code s d=some (ex,s',d):=fun {code n s ex s' d N m} he I J hm=>by
  obtain⟨k,rfl⟩:∃k,m=k+1:=⟨m-1,by omega⟩
  rw[he,fP J _ _ _ I]
 intro code
 induction code with
 |seq a b iha ihb =>
  intro n s ex s' d hn I N m J hm
  simp only[noDefC,bK] at hn
  simp only[sdep] at hm
  obtain⟨k,rfl⟩:∃k,m=k+1:=⟨m-1,by omega⟩
  cases n with
  |zero=>cases I
  |succ n =>
   rw[jy] at I
   simp only[evStep] at I
   cases ha:ev C n a s with
   |none=>grind
   |some r =>
    obtain⟨e1,s1⟩:=r
    have h1:=iha (d:=d) hn.1 ha N k (by omega) (by omega)
    simp only[evTop,h1]
    rw[ha] at I
    cases e1 with
    |normal=>exact ihb hn.2 I N k (by omega) (by omega)
    |exit i=>grind
    |ret=>grind
 |region id ops draw =>
  intro n s ex s' d hn I N m J hm
  cases draw with
  |true=>exact leaf (fun m=>rfl) I J hm
  |false =>
   obtain⟨k,rfl⟩:∃k,m=k+1:=⟨m-1,by have:1≤m:=hm;omega⟩
   cases n with
   |zero=>cases I
   |succ n =>
    rw[jy] at I
    simp only[evStep,a_] at I
    cases ho:evOps C (ev C n) ops.toList ops.toList s with
    |none=>grind
    |some s1 =>
     rw[ho] at I
     obtain⟨rfl,rfl⟩:=I
     have h2:=qv (fP (C:=C) (show n≤N by omega)) _ _ _ ho
     simp only[evTop,Qz (d:=d) hn h2]
 |_=>intro n s ex s' d hn I N m J hm;exact leaf (fun m=>rfl) I J hm
theorem WPd.of_wp (J:noDefC code=true)(hw:WP C au code E h fun ex E' h'=>Q ex E' h' d): WPd C au code E h d Q:=by
 intro env hE
 obtain⟨N,ex,I,h',E',h1,h2,h3⟩:=hw env hE
 exact⟨N,ex,I,h',E',d,fun M m hM hm=>evTop_of J h1 M m hM hm,h2,h3⟩
theorem WPd.seq {a b:Code}(hw:WPd C au a E h d fun ex E' h' J=>match ex with
  |.normal=>WPd C au b E' h' J Q
  |ex=>Q ex E' h' J): WPd C au (.seq a b) E h d Q:=by
 intro env hE
 obtain⟨N,ex,I,h',E',J,h1,h2,h3⟩:=hw env hE
 have one:∀M m,N≤M→sdep (.seq a b)≤m+1→evTop C M m a ⟨env,au,h⟩ d=some (ex,⟨I,au,h'⟩,J):=fun M m hM hm=>h1 M m hM (by simp only[sdep] at hm;omega)
 have out:(match ex with|.normal=>False|_=>True)→Q ex E' h' J→∃N0 ex I h' E' J,(∀N m,N0≤N→sdep (.seq a b)≤m→evTop C N m (.seq a b) ⟨env,au,h⟩ d=some (ex,⟨I,au,h'⟩,J))∧jI I E'∧Q ex E' h' J:=fun hx hq=>by
  refine⟨N,ex,I,h',E',J,fun M m hM hm => ?_,h2,hq⟩
  obtain⟨k,rfl⟩:∃k,m=k+1:=⟨m-1,by simp only[sdep] at hm;omega⟩<;>grind[evTop]
 cases ex with
 |normal =>
  obtain⟨K,ow,M7,Hy,E2,d2,g1,g2,g3⟩:=h3 I h2
  refine⟨max N K,ow,M7,Hy,E2,d2,fun M m hM hm => ?_,g2,g3⟩
  obtain⟨k,rfl⟩:∃k,m=k+1:=⟨m-1,by simp only[sdep] at hm;omega⟩<;>grind[sdep,evTop]
 |exit i=>simp_all
 |ret=>simp_all
theorem WPd.defer {ops:Array Oper}{I J:Oper}{x1 y:Operand}{cl:Go.Call}{v:V}{first cap:List V}(hL:ops.toList=[I,J])(g1:I.guard=none)(d1:I.dst=some k)(p1:I.op=.move x1)(hk:Nat.blt k au=true)(hx:bB E x1=some v)
 (g2:J.guard=none)(d2:J.dst=none)(p2:J.op=.defer cl)(hc:cl.callee=.value y)(hy:bB ((k,v)::E) y=some (.fn (.func g) first cap))(ha:lookArgs ((k,v)::E) cl.args.toList=some args)
 (hq:Q .normal ((k,v)::E) h ((g,first++args,cap)::d)): WPd C au (.region id ops false) E h d Q:=by
 intro env hE
 have UD:jI (env.set k (some v)) ((k,v)::E):=hE.set _ _
 refine⟨0,.normal,env.set k (some v),h,(k,v)::E,(g,first++args,cap)::d,fun M m _ hm => ?_,UD,hq⟩
 obtain⟨j,rfl⟩:∃j,m=j+1:=⟨m-1,by have:1≤m:=hm;omega⟩
 have e1:evOpsD C (ev C M) [I,J] [I,J] ⟨env,au,h⟩ d=some (⟨env.set k (some v),au,h⟩,(g,first++args,cap)::d):=by
  have jA:wantedV [I,J] env I=true:=by simp[wantedV,g1]
  have he1:evOp C (ev C M) env h I=some (v,h):=by simp only[evOp,p1,bX hE hx];rfl
  have SD:St.put ⟨env,au,h⟩ I.dst v h=some ⟨env.set k (some v),au,h⟩:=by grind[St.put]
  rw[evOpsD]
  grind[evOpsD,nc,bX]
 simp only[evTop,hL,e1]
theorem toldDefer_do {f:FuncId}{R:V→H→Prop}(hf:C.P.funcs[f]?=some fn)(hb:fn.body=some code)(hl:Nat.blt fn.ntmps args.length=false)(hdp:sdep code≤1000)
 (hw:WPd C fn.ntmps code (argE args 0) h [] fun ex E' h' d'=>(match ex with|.exit _=>False|_=>True)∧∃I v,(∃N0,∀N,N0≤N→runDefs C N d' h'=some I)∧resLE C.P E' I fn.results.toList=some v∧R v I):
  ∃v I,(∃N0,∀N,N0≤N→toldDefer C N f args h=some (v,I))∧R v I:=by
 obtain⟨N0,ex,J,h',E',d',h1,I,hx,h3,v,⟨N1,hr⟩,B8,hR⟩:=hw _ (wA args)
 refine⟨v,h3,⟨max N0 N1,fun N hN => ?_⟩,hR⟩
 have e1:=h1 N 1000 (by omega) hdp
 have e3:resOf C.P ⟨J,fn.ntmps,h3⟩ fn.results.toList=some v:=by
  unfold resLE at B8
  cases hm:mapO (resE C.P E' h3) fn.results.toList with
  |none=>grind
  |some vs =>
   have BI:=A4 (P:=C.P) (s:=⟨J,fn.ntmps,h3⟩) I hm
   grind[resOf]
 unfold toldDefer
 simp only[hf,hb,hl,a_,e1]
 cases ex with
 |exit i=>grind
 |normal=>grind
 |ret=>grind
theorem Ky {g:FuncId}{v:V}{J:H}(ht:C.told g=none)(hf:C.P.funcs[g]?=some fn)(hb:fn.body=some code)(hq:quietParts code=none)(hc:h_ C g args h v J): ∃I,∀N,I≤N→runDefs C N [(g,args,[])] h=some J:=by
 obtain⟨I,h0⟩:=hc
 refine⟨I,fun N hN => ?_⟩
 have e:=qu (fP (C:=C) hN) h0
 grind[runDefs,defCall]
end
def Jn (f:FuncId)(args:List V)(h:H)(r:V×H): Prop:=∃I,∀N,I≤N→toldDefer CB N f args h=some r
theorem Call.defer {told:dc}{f:FuncId}{R:V→H→Prop}(ht:told f=some (kE Tryz.prog f (Jn f)))(hf:Tryz.prog.funcs[f]?=some fn)(hb:fn.body.isSome=true)
 (hd:∃v I,(∃J,∀N,J≤N→toldDefer CB N f args h=some (v,I))∧R v I): Call ⟨Tryz.prog,told⟩ f args h R:=by
 obtain⟨v,I,⟨J,h0⟩,hR⟩:=hd
 obtain⟨r,e1,N1,h1⟩:=vg (P:=Tryz.prog) (f:=f) (jt:=Jn f) (args:=args) (h:=h) (r:=(v,I)) ⟨J,h0⟩ (fun c w vA hw=>HC (C:=CB) iD fQ (h0 J (aU _)) vA hw)
 have:r=(v,I):=by
  have a:=h0 (max J N1) (by omega)
  grind
 subst this
 exact⟨v,I,h_.told ht hf hb e1,hR⟩
section
variable {α:Type}
theorem Wz (s:Sat h S){e:TypeId}{z:V}(hu:P.underlying t=some (.slice e))(hz:zeroT P e=some z)(hk:bJ P e=some 1)(hl:z.cells.length=1)(hx:x.cells=[x])(hy:y.cells=[y])(I:storable x=true)(J:storable y=true):
  ∃v h',buildSliceV P h t 2 [(0,x),(1,y)]=some (v,h')∧Sat h' (.arr 1 v [x,y]::S):=by
 refine⟨.sl h.next 0 2 (.exact 2),newRow h [x,y],?_,?_⟩
 ·obtain⟨z0,yJ⟩:∃z0,z.cells=[z0]:=by
   match hq:z.cells with
   |[]=>rw[hq] at hl;cases hl
   |[z0]=>exact⟨z0,rfl⟩
   |_::_::_=>rw[hq] at hl;simp at hl
  simp only[buildSliceV,hu,hk,hz,yJ]
  rw[show(Nat.beq [z0].length 1&&Nat.ble (2*1) 65536&&Nat.ble 1 1)=true by rfl,aj]
  have e1:repeatL [z0] 2=[z0,z0]:=by simp[repeatL]
  simp only[fillV,e1,hx,hy,aX,cI]
  show cond ([x,y].all storable) (some (V.sl h.next 0 2 (Cap.exact 2),newRow h [x,y])) none=_
  simp only[gJ,ki,I,J]
  rfl
 ·refine(s.new _).gX fun m r hm=>⟨by simp[I,J],.inr ⟨h.next,2,.exact 2,2,[],rfl,?_,rfl,rfl,rfl,rfl,aU _⟩⟩
  have hm:m h.next=some (.cells 2 [x,y] false):=hm
  rw[hm];rfl
theorem WA {f:V→α→aO}{cs:List α}{c:α}(J:∀v x,aY (f v x))(s:Sat h (each f us cs::S))(I:cs[i]?=some c): ∃u,us[i]?=some u∧Sat h (f u c::each f us cs::S):=by
 obtain⟨a,b,q1,q2,q3⟩:=s.at (k:=0) rfl
 have hl:=ry q3
 have hi:=(List.getElem?_eq_some_iff.1 I).1
 have hu:us[i]?=some (us[i]'(by omega)):=bA _
 exact⟨_,hu,(s.dup (aY.each J _ _)).gX fun a b h=>xE h hu I⟩
theorem WB {S:Prop}: cQ (pu S) (cW .bC []):=fun _ _ _=>.inl ⟨fun _ h=>(by cases h),.inl ⟨.inl rfl,rfl⟩⟩
end
theorem DV {kd:Nat}: buildV Tryz.prog 48 [(0,.int .i64 (kd:Int))]=some (.agg (ie (kd:Int) 0 0 0 .bC .bC)):=by rw[ED];rfl
section
variable {told:dc} {M p:Nat} {v op cv:V} {kd:Nat}
theorem dW.done (hw:NW N now)(hd:∀m,pgA ah m=match lookL m now with|some b=>cT b aM|none=>pgA ε m){i:Int}(I:dW (pgG now ε i) kd link extra cs): dW (pgA ah i) kd link extra cs:=by
 rw[hd]
 unfold pgG at I
 cases J:lookL i now with
 |none=>rw[J] at I;exact I
 |some b =>
  rw[J] at I
  obtain⟨k1,k2,_⟩:=nL (n:=aM) I.len
  exact I.tail k2 k1
theorem fW.done {M:List Nat}(hw:NW N now)(J:∀m,pgA ah m=match lookL m now with|some b=>cT b aM|none=>pgA ε m)(I:fW n R M (pgG now ε)): fW n R M (pgA ah):=by
 obtain⟨ex,h0⟩:=I.head
 obtain⟨kd,lk,ow,h1⟩:=I.marks
 exact⟨⟨ex,h0.done hw J⟩,I.rl,⟨kd,lk,ow,h1.done hw J⟩,I.ml,I.n1,I.n2,I.own,I.hi⟩
theorem Gk (hT:W told)(iH:fD ε)(I:bG ε+65536≤268435456)(J:ε.2.1.b=ε.2.2.log)(fU:ε.2.1.base+ε.2.1.b.length+1048584≤1099511627776)(hNm:N≤65536)(hw:NW N now)(s:Sat h (GA g a p q r data aB now ε::S)):
  Call ⟨Tryz.prog,told⟩ 26 [.ptr g 0,.agg (ie (kd:Int) 0 0 0 .bC .bC)] h fun v h'=>∃(aM:Nat) (e:Int) (cl:Bool) (ah:aZ),DnR ε now kd 0 0 0 [] 0 aM e cl ah∧v=.bf [.int .u64 (aM:Int),.int .i64 e] ∧
   Sat h' (gE g a now cl::SA a p q r (cond cl .cy (.ptr g 0)) data aB ah::S):=by
 have s:=br.1 s
 have s:Sat h (gE g a now false::eA a p q r (.ptr g 0) data aB::dK r p q ε.1::bS q p ε.2.1::aR p ε.2.2::S):=s
 have s:=(s.gM (φ:=True) aa).oO (k:=4)
 refine(V5 (oQ:=0) (data:=[]) hT (s.ae [2,2,2,2,2,1,0]) WB rfl iH I (fun e he=>eC (hw.good e he).1) (by have:=hw.len;omega) (fun n hn=>by have:=hw.keys n hn;omega) (by decide) (by decide) (by decide) (fX _) J fU).mono ?_
 rintro v h ⟨aM,e,cl,ah,hr,rfl,s⟩
 have s:Sat h (gE g a now cl::eA a p q r (cond cl .cy (.ptr g 0)) data aB::dK r p q ah.1::bS q p ah.2.1::aR p ah.2.2::pu True::S):=s
 have s2:Sat h (SA a p q r (cond cl .cy (.ptr g 0)) data aB ah::gE g a now cl::pu True::S):=br.2 (s.ae [1,1,1,1,0])
 exact⟨aM,e,cl,ah,hr,rfl,(s2.ae [1]).del 2⟩
theorem QA (hT:W told)(hB:B≤900)(I:EI N B ε)(hw:NW N now)(s:Sat h (GA g a p q r data aB now ε::S)):
  Call ⟨Tryz.prog,told⟩ 26 [.ptr g 0,.agg (ie (kd:Int) 0 0 0 .bC .bC)] h fun v h'=>∃(aM:Nat) (e:Int) (cl:Bool) (ah:aZ),DnR ε now kd 0 0 0 [] 0 aM e cl ah∧v=.bf [.int .u64 (aM:Int),.int .i64 e] ∧
   Sat h' (gE g a now cl::SA a p q r (cond cl .cy (.ptr g 0)) data aB ah::S):=by
 have J:=I.bG
 have fU:=I.el.size
 exact Gk hT I.ok (by omega) I.el.log (by omega) I.many hw s
theorem QB (hT:W told)(hB:B≤900)(I:EI N B ε)(hw:NW N now){L:Nat}(hL:now.length≤L)(hN:N≤1024)(h1:1≤kd)(h2:kd≤7)(hd:vt K M ε)(hf:K+520*L+28≤M)(s:Sat h (GA g a p q r data aB now ε::S)):
  Call ⟨Tryz.prog,told⟩ 26 [.ptr g 0,.agg (ie (kd:Int) 0 0 0 .bC .bC)] h fun v h'=>∃(aM:Nat) (ah:aZ),v=.bf [.int .u64 (aM:Int),.int .i64 0]∧EI N (B+2) ah∧(∀m,pgA ah m=match lookL m now with|some b=>cT b aM|none=>pgA ε m)∧vt (K+520*L+28) M ah ∧
   Sat h' (gE g a now true::SA a p q r .cy data aB ah::S)∧DnR ε now kd 0 0 0 [] 0 aM 0 true ah:=by
 refine(QA hT hB I hw s).mono ?_
 rintro v h ⟨aM,e,cl,ah,hr,rfl,s⟩
 obtain⟨rfl,rfl,J⟩:=hr.fits I (by omega) hw hL hN h1 h2 (by decide) hd hf
 rcases I.done (by omega) hw (by omega) (by omega) hr with⟨kz,_⟩|⟨_,_,F5,mh⟩
 ·cases kz
 ·exact⟨aM,ah,rfl,F5,mh,J,s,hr⟩
theorem Ts (J:W told)(hB:B≤900)(I:EI N B ε)(hw:NW N now)(hN:N≤1024)(h1:1≤kd)(h2:kd≤7)(hd:vt K M ε)(hf:K+520*N+28≤M)(s:Sat h (GA g a p q r data aB now ε::S)):
  Call ⟨Tryz.prog,told⟩ 26 [.ptr g 0,.agg (ie (kd:Int) 0 0 0 .bC .bC)] h fun v h'=>∃(aM:Nat) (ah:aZ),v=.bf [.int .u64 (aM:Int),.int .i64 0]∧EI N (B+2) ah∧(∀m,pgA ah m=match lookL m now with|some b=>cT b aM|none=>pgA ε m)∧vt (K+520*N+28) M ah ∧
   Sat h' (gE g a now true::SA a p q r .cy data aB ah::S)∧DnR ε now kd 0 0 0 [] 0 aM 0 true ah:=QB J hB I hw hw.len hN h1 h2 hd hf s
noncomputable def mdL : Code:=cD [1,1,1,0,1,0,0] ((Tryz.f73.body).getD .skip)
theorem QC (hT:W told)(fA:26+4*cs.length+tot cs≤512)(mR:us.length=cs.length): ∀(m i:Nat) (v:V) (b:List Nat) (h:H) (E:List (Nat×V)) (Q:Ex→List (Nat×V)→H→Prop),i+m=cs.length→dW b kd link extra (cs.take i) →
  Sat h (aV v b::each (fun v c=>.cg v c) us cs::.arr 1 cv us::S)→Has E [(7,v),(22,cv),(23,.int .i64 (cs.length:Int)),(24,.int .i64 (i:Int))] →
  (∀v' b' E' h',dW b' kd link extra cs→Has E' [(7,v')]→Sat h' (aV v' b'::each (fun v c=>.cg v c) us cs::.arr 1 cv us::S)→Q (.exit 0) E' h')→WP ⟨Tryz.prog,told⟩ 38 (.loop mdL) E h Q:=by
 intro m
 induction m with
 |zero =>
  intro i v b h E Q hi hp s hE hq
  refine WP.loop (WP.has hE (zg rfl (zC rfl aN (by simp;omega) ?_)))
  exact zk 3 rfl (WP.exit (hq v b _ _ (by rw[show cs.take i=cs from eW (by omega)] at hp;exact hp) ⟨rfl,aa⟩ s))
 |succ m ih =>
  intro i v b h E Q hi hp s hE hq
  have I:cs[i]?=some (cs[i]'(by omega)):=bA _
  generalize (cs[i]'(by omega))=c at I
  obtain⟨u,hu,s⟩:=WA (fun _ _=>aY.cg _ _) (s.ae [1]) I
  dsimp only[aL,bringA] at s
  obtain⟨id,off,e1,e2⟩:=iz (P:=Tryz.prog) s (k:=3) (i:=i) (c:=u) rfl hu gG ij
  have Qi:=nN I
  have Lb:=oR (cs:=cs) (i:=i+1)
  have hlen:(cs.take i).length=i:=by rw[gI];omega
  have PU:cs.take (i+1)=cs.take i++[c]:=by rw[vU,I];rfl
  refine WP.loop (WP.has hE (zg rfl (zB rfl aN (by simp;omega) ?_)))
  refine zk 5 rfl (WP.block (zK 3 rfl (zo rfl (cj (r:=.ptr id off) rfl rfl e1) (zl rfl (e2 _ bP) (zk 7 rfl ?_)))))
  have J:=Wp (told:=told) hT (s.ae [2,0]) (bu _ _) (dF _ _) hp (by rw[hlen];omega)
  rw[hlen] at J
  refine zc rfl (J) ?_
  rintro r h ⟨u',b',rfl,ot,s⟩
  rw[←PU] at ot
  refine zk 4 rfl (zv (zr rfl (zb rfl (by exact bx (aA (by omega) (by omega))) ?_)))
  refine zm rfl (zv ?_)
  exact ih (i+1) u' b' _ _ Q (by omega) ot (((s.ae [0,2,2]).del 4).del 3) ⟨rfl,rfl,rfl,rfl,aa⟩ hq
theorem LI (hT:W told)(UH:kd≤255)(Y_:lk<4294967296)(I:26+4*cs.length+tot cs≤512)(J:us.length=cs.length)(s:Sat h (each (fun v c=>.cg v c) us cs::.arr 1 cv us::S)):
  Call ⟨Tryz.prog,told⟩ 73 [.int .i64 (kd:Int),.int .i64 (lk:Int),cv] h fun r h'=>∃b',dW b' kd lk 0 cs∧Sat h' (aV r b'::S):=by
 refine Call.of_wp (hT.free _ rfl) Tryz.func73 rfl rfl (zK 7 rfl (zc rfl (Tg (kd:=kd) hT s UH) ?_))
 rintro r h ⟨u,b,rfl,hb,s⟩
 refine zk 10 rfl (zc rfl (Wo (lk:=lk) (ex:=0) hT s (bu _ _) hb Y_ (by decide)) ?_)
 rintro r h ⟨u2,b2,rfl,Fj,s⟩
 refine zk 9 rfl (zo rfl (aP rfl rfl rfl (s.ew (n:=cs.length) (j:=3) rfl (by rw[J,c_]) (by decide) gG)) ?_)
 refine zk 2 rfl (WP.block ?_)
 refine QC hT I J cs.length 0 u2 b2 _ _ _ (by omega) Fj (s.ae [0,1,1]) ⟨rfl,rfl,rfl,rfl,aa⟩ (fun v' b' E' h' hp' hE s' => ?_)
 have s:=s'
 exact WP.has hE (zK 5 rfl (WP.ret ⟨aa,_,rfl,b',hp',((s.del 3).del 2).del 1⟩))
theorem Nt (J:W told)(s:Sat h (X::S))(hX:cQ X (cW v b))(hl:b.length=512)(hg:bW b=false): Call ⟨Tryz.prog,told⟩ 140 [v] h fun r h'=>r=.bf [.bC,.int .i64 4]∧Sat h' (X::S):=by
 refine Call.of_wp (J.free _ rfl) Tryz.func140 rfl rfl (zK 8 rfl (zc rfl (uw J s hX (by omega)) ?_))
 rintro r h' ⟨s,(⟨I,rfl⟩|⟨_,rfl⟩)⟩
 ·rw[hg] at I;cases I
 refine zk 3 rfl ?_
 refine ay.b8 s rfl rfl rfl (bU j7) (fun p4 h s => ?_)
 refine zS rfl (s.ep (j:=0) rfl bQ rfl rfl) (fun h s => ?_)
 refine zk 6 rfl (zB rfl aD (by decide) ?_)
 exact zk 8 rfl (WP.ret ⟨aa,_,rfl,rfl,s.drop⟩)
theorem QD (hT:W told)(hR:sO told N B rv A pg)(J:EI N B ε)(hN:1≤N)(hl:(pg ε 0).length=512)(hg:bW (pg ε 0)=false)(s:Sat h (A ε::S)):
  Call ⟨Tryz.prog,told⟩ 91 [rv] h fun v h'=>∃ah,v=.bf [.bC,.int .i64 0,.bool false,.int .i64 0]∧EI N B ah∧Sm N ε ah∧Sat h' (A ah::S):=by
 obtain⟨ty,u,f,rfl,hm,mA⟩:=hR.iface
 refine Call.of_wp (hT.free _ rfl) Tryz.func91 rfl rfl (zK 10 rfl (ay.any rfl rfl rfl (OpR.invoke rfl rfl rfl hm rfl (mA J (by decide) (by omega) s)) ?_))
 rintro v h ⟨u,ah,rfl,I,hs,s⟩
 refine zk 10 rfl (zC rfl aD (rfl) (zk 6 rfl (zc rfl (Nt hT s (bu _ _) hl hg) ?_)))
 rintro v h ⟨rfl,s⟩
 refine zk 8 rfl (WP.drawn [af,af,af,af,af,af,af,af,some (0,2),some (0,2),some (0,2),af,af,af,af,af,af,af,af,af,af,af] rfl (by kernel_rfl) (by kernel_rfl) ?_)
 refine zM rfl (ax.pU rfl rfl rfl rfl (az rfl rfl aD) (by decide) ?_)
 refine zM rfl (ax.no (e:=false) rfl rfl rfl rfl (ax.no (e:=false) rfl rfl rfl rfl (ax.no (e:=false) rfl rfl rfl rfl (zO rfl (fY rfl rfl) (zM rfl (ax.no (e:=false) rfl rfl rfl rfl (ax.no (e:=false) rfl rfl rfl rfl (ax.no (e:=false) rfl rfl rfl rfl (ax.no (e:=true) rfl rfl rfl rfl (ax.no (e:=true) rfl rfl rfl rfl (ax.no (e:=false) rfl rfl rfl rfl (zO rfl (fY rfl rfl) (zM rfl (ax.no (e:=false) rfl rfl rfl rfl (ax.no (e:=false) rfl rfl rfl rfl (ax.no (e:=false) rfl rfl rfl rfl (ax.no (e:=false) rfl rfl rfl rfl (ax.no (e:=false) rfl rfl rfl rfl (zO rfl (fY rfl rfl) ?_)))))))))))))))))))
 refine ax.nil ⟨⟨aa,aa,aa,aa,aa,aa,aa,aa,fun _ _=>.inl rfl,fun _ _=>.inl rfl,fun _ _=>.inl rfl,aa,aa,aa,aa,aa,aa,aa,aa,aa,aa,aa,aa⟩,?_⟩
 exact zK 8 rfl (WP.ret ⟨aa,_,rfl,ah,rfl,I,hs,s.drop⟩)
theorem GG (hT:W told)(hR:sO told N B rv A pg)(J:EI N B ε)(hN:1≤N)(hl:(pg ε 0).length=512)(hg:bW (pg ε 0)=false)(s:Sat h (A ε::S)):
  Call ⟨Tryz.prog,told⟩ 37 [rv] h fun v h'=>∃ah,v=.bf [.bool false,.int .i64 0]∧EI N B ah∧Sm N ε ah∧Sat h' (A ah::S):=by
 refine Call.of_wp (hT.free _ rfl) Tryz.func37 rfl rfl (zK 8 rfl (zc rfl (QD hT hR J hN hl hg s) ?_))
 rintro v h ⟨ah,rfl,I,hs,s⟩
 exact zk 17 rfl (WP.ret ⟨aa,_,rfl,ah,rfl,I,hs,s⟩)
end
def yy : List Nat:=((List.replicate 375 0).set 0 1).set 0 3
theorem DW : bt yy j=decide (j<2):=by
 unfold bt yy
 by_cases h:j/8=0
 ·have e:(((List.replicate 375 0).set 0 1).set 0 3).getD (j/8) 0=3:=by rw[h];decide +kernel
  have k:∀i,i<8→(3:Nat).testBit i=decide (i<2):=by decide
  rw[e,k _ (by omega)]
  by_cases I:j<2
  ·rw[fL I,fL (by omega)]
  ·rw[fE I,fE (by omega)]
 ·have e:(((List.replicate 375 0).set 0 1).set 0 3).getD (j/8) 0=0:=by
   rw[gY,kL (by omega),kL (by omega),List.getElem?_replicate]
   split<;>rfl
  rw[e,Nat.zero_testBit,fE (by omega)]
def Zg (N B kd:Nat)(ε ah:aZ): Prop:=∃(I:aZ) (now:List (Int×List Nat)) (aM:Nat),EI N B I∧Sm N ε I∧NW N now∧(∀i:Int,2≤i→lookL i now=none)∧DnR I now kd 0 0 0 [] 0 aM 0 true ah
section
variable {told:dc} {M p:Nat}
theorem QE (hB:B≤800)(gj:EI N B ε)(hN:4≤N)(QF:N≤1000)(hz:(pgA ε 0).length=512)(hg:bW (pgA ε 0)=false)(hd:vt K M ε)(hf:K+520*N+28≤M)(s:Sat h (SA a p q r .cy data aB ε::S)):
  ∃v h2,(∃N0,∀n,N0≤n→toldDefer CB n 31 [.ptr a 0] h=some (v,h2))∧(v=.int .i64 0∧∃ah,EI N (B+2) ah∧fW N (List.replicate 64 0) yy (pgA ah)∧vt (K+520*N+28) M ah∧Sat h2 (SA a p q r .cy data aB ah::S)∧Zg N B 1 ε ah):=by
 have I:=W.base
 refine toldDefer_do (C:=CB) Ja rfl rfl (of_decide_eq_true (by kernel_rfl)) ?_
 refine WPd.seq (WPd.of_wp rfl (zr rfl (za rfl (zv (WPd.seq (WPd.of_wp rfl (zr rfl (zm rfl (zo rfl (rL rfl (mki_of rY rfl)) (zc rfl (GG I (Tp I (by omega)) gj (by omega) hz hg s) ?_))))))))))
 rintro v h ⟨nr,rfl,jh,fF,s⟩
 have hd:=hd.sm fF
 have s:Sat h (eA a p q r .cy data aB::dK r p q nr.1::bS q p nr.2.1::aR p nr.2.2::S):=br.1 s
 refine zk 5 rfl (zv (WPd.seq (WPd.of_wp rfl (WP.block (zg rfl (zm rfl (zh rfl (az rfl rfl aD) (rfl) (za rfl (zv (zj rfl (zg rfl (zk 2 rfl (zv (zj rfl (WP.skip (WPd.seq (WPd.of_wp rfl (zr rfl (zm rfl (zc rfl (SH I s) ?_))))))))))))))))))))
 rintro v h' ⟨rfl,rfl⟩
 refine zc rfl (xG I (s.ae [3])) ?_
 rintro v h' ⟨rfl,rfl⟩
 rw[jh.ec.dk.aq]
 refine za rfl (zv (WPd.seq (WPd.of_wp rfl (zr rfl (zm rfl (zc rfl (uJ I (n:=N) (by omega) (by omega)) ?_))))))
 rintro v h' ⟨rfl,rfl⟩
 refine za rfl (zv (WPd.seq (WPd.of_wp rfl (zr rfl (zm rfl (zc rfl (F0 I s) ?_))))))
 rintro v h ⟨g,rfl,s⟩
 refine zk 5 rfl (zv (WPd.seq (WPd.seq (WPd.of_wp rfl (zr rfl (zm rfl (zh rfl (az rfl rfl aD) (rfl) (zv (WPd.of_wp rfl (zj rfl (WP.skip (WPd.seq (WPd.defer rfl rfl rfl rfl rfl rfl rfl rfl rfl rfl rfl rfl (WPd.seq (WPd.seq (WPd.of_wp rfl (zr rfl (zk 2 rfl (zb rfl (by exact bx (aA (by omega) (by omega))) ?_)))))))))))))))))))
 refine zC rfl aN (by simp;omega) ?_
 have s:Sat h (GA g a p q r data aB [] nr::S):=br.2 s
 refine zv (WPd.of_wp rfl (zj rfl (WP.skip (WPd.seq (WPd.seq (WPd.of_wp rfl (WP.drawn [some (0,5),some (0,4),af,af,af,af,af,af] rfl (by kernel_rfl) (by kernel_rfl) ?_)))))))
 refine zM rfl (zM rfl (ax.any rfl rfl rfl rfl (OpR.call rfl rfl rfl rfl (Jd I s)) ?_))
 intro mv h s
 refine ax.any rfl rfl rfl rfl (OpR.gN rfl s rfl rfl rfl rfl (by decide)) ?_
 intro zbv h s
 have s:=s.gC
 have Zh:(List.replicate 64 0).length=64:=dx
 have hm:=(s.aH (k:=1) rfl (dF _ _)).cells
 have hzc:=(s.aH (k:=0) rfl (dF _ _)).cells
 obtain⟨cv,h1,e1,s1⟩:=Wz (P:=Tryz.prog) (x:=mv) (y:=zbv) s gG o8 ij rfl hm.1 hzc.1 hm.2 hzc.2
 refine ax.any rfl rfl rfl rfl (OpR.of (R:=fun v h'=>v=cv∧h'=h1) (nk rfl e1) ⟨rfl,rfl⟩) ?_
 rintro cv h ⟨rfl,rfl⟩
 have s:=(s1.ae [2,1]).two (C:=each (fun v c=>.cg v c) [mv,zbv] [fy,List.replicate 64 0]) (aY.cg _ _) (aY.cg _ _) fun a b q1 q2=>⟨q1,q2,aa⟩
 generalize hR:List.replicate 64 0=R at s Zh
 refine ax.any rfl rfl rfl rfl (OpR.call rfl rfl rfl rfl (LI (kd:=201) (lk:=N) I (by decide) (by omega) (by simp only[tot,fy,aX,cI,Zh];decide) rfl s)) ?_
 rintro u h ⟨b0,tU,s⟩
 refine ax.any rfl rfl rfl rfl (OpR.call rfl rfl rfl rfl (Nr (i:=0) I (by omega) jh (NW.nil N) (by omega) (s.ae [1,0]) (bu _ _) tU)) ?_
 rintro v h ⟨jH,rfl,mF,jC,DI,s⟩
 have hd:=hd.sm jC
 refine zA rfl ?_
 refine ax.nil ⟨⟨fun _ _=>.inr ⟨rfl,⟨_,bD rfl⟩,bn _ rfl⟩,fun _ _=>.inr ⟨rfl,⟨_,bD rfl⟩,bn _ rfl⟩,aa,aa,aa,aa,aa,aa,aa⟩,?_⟩
 refine WPd.seq (WPd.of_wp rfl (zr rfl (zm rfl (zh rfl (az rfl rfl aD) (rfl) (zv (WPd.of_wp rfl (zj rfl (WP.skip (WPd.seq (WPd.seq (WPd.of_wp rfl (zr rfl (za rfl (zv (WPd.of_wp rfl (WP.block (WP.loop (zw (zg rfl (zk 2 rfl (zt rfl (az rfl rfl aN) (by decide) ?_)))))))))))))))))))))
 refine zv (zi rfl (WP.skip (zw (WP.block (zg rfl (ay.any rfl rfl rfl (OpR.gN rfl s rfl rfl rfl rfl (by decide)) ?_))))))
 intro mk h s
 have J:(List.replicate 375 0).length=375:=dx
 have yJ:(List.replicate 375 0)[0]?=some 0:=by decide +kernel
 have ve:yy.length=375:=by unfold yy;rw[bY,bY,J]
 have DM:yy=((List.replicate 375 0).set 0 1).set 0 3:=rfl
 have Aq:∀j,bt yy j=decide (j<2):=fun j=>DW
 generalize yy=M0 at ve DM Aq ⊢
 generalize List.replicate 375 0=Z at s J yJ DM
 obtain⟨id,off,e2,e3⟩:=eo (s.buf (k:=0) rfl).view yJ
 obtain⟨Jl,Jm,e4,h4,e5,s2⟩:=lD s (i:=0) (b:=1) (by omega) (by decide)
 have ee:V.ptr id off=V.ptr Jl Jm:=by rw[e2] at e4;exact cx e4
 rw[←ee] at e5
 refine zk 8 rfl (WP.block (WP.loop (zg rfl (zB rfl aN (by decide) ?_))))
 refine zk 5 rfl (WP.block (zK 8 rfl (zo rfl (az (r:=.int .i64 0) rfl rfl (by kernel_rfl)) ?_)))
 refine zm rfl (zb rfl (by exact iX (aA (by omega) (by omega))) ?_)
 refine zB rfl dG (by decide) ?_
 refine zk 2 rfl (WP.drawn [af,af,af,af,af,af,af,af,af,af,af,af] rfl (by kernel_rfl) (by kernel_rfl) ?_)
 refine zM rfl (zM rfl (zO rfl (az (r:=.int .i64 0) rfl rfl (by kernel_rfl)) ?_))
 refine zO rfl (az (r:=.int .i64 0) rfl rfl (by kernel_rfl)) ?_
 refine zO rfl (cj (r:=.ptr id off) rfl rfl e2) (zL rfl e3 (zM rfl (zO rfl (az (r:=.int .i64 0) rfl rfl (by kernel_rfl)) ?_)))
 refine zO rfl (az (r:=.int .u8 1) rfl rfl (by kernel_rfl)) ?_
 refine zO rfl (az (r:=.int .u8 1) rfl rfl (by kernel_rfl)) ?_
 refine zO rfl (cj (r:=.ptr id off) rfl rfl e2) (ax.iB rfl rfl rfl (OpR.eu rfl rfl rfl (⟨h4,e5,s2⟩)) ?_)
 rintro w h ⟨rfl,s⟩
 refine ax.nil ⟨⟨aa,aa,aa,aa,aa,aa,aa,aa,aa,aa,aa,aa,aa⟩,?_⟩
 have N4:(Z.set 0 1)[0]?=some 1:=iM (by omega)
 have mc:(Z.set 0 1).length=375:=by rw[bY,J]
 obtain⟨Zi,Tt,e6,e7⟩:=eo (s.buf (k:=0) rfl).view N4
 obtain⟨id6,abK,e8,h7,e9,s3⟩:=lD s (i:=0) (b:=3) (by omega) (by decide)
 have ee:V.ptr Zi Tt=V.ptr id6 abK:=by rw[e6] at e8;exact cx e8
 rw[←ee] at e9
 refine zr rfl (zb rfl (by exact bx (aA (by omega) (by omega))) ?_)
 refine zm rfl (zv (WP.loop (zg rfl (zt rfl (az rfl rfl aN) (by decide) ?_))))
 refine zk 5 rfl (WP.block (zK 8 rfl (zo rfl (az (r:=.int .i64 0) rfl rfl (by kernel_rfl)) ?_)))
 refine zm rfl (zb rfl (by exact iX (aA (by omega) (by omega))) ?_)
 refine zB rfl dG (by decide) ?_
 refine zk 2 rfl (WP.drawn [af,af,af,af,af,af,af,af,af,af,af,af] rfl (by kernel_rfl) (by kernel_rfl) ?_)
 refine zM rfl (zM rfl (zO rfl (az (r:=.int .i64 1) rfl rfl (by kernel_rfl)) ?_))
 refine zO rfl (az (r:=.int .i64 0) rfl rfl (by kernel_rfl)) ?_
 refine zO rfl (cj (r:=.ptr Zi Tt) rfl rfl e6) (zL rfl e7 (zM rfl (zO rfl (az (r:=.int .i64 1) rfl rfl (by kernel_rfl)) ?_)))
 refine zO rfl (az (r:=.int .u8 2) rfl rfl (by kernel_rfl)) ?_
 refine zO rfl (az (r:=.int .u8 3) rfl rfl (by kernel_rfl)) ?_
 refine zO rfl (cj (r:=.ptr Zi Tt) rfl rfl e6) (ax.iB rfl rfl rfl (OpR.eu rfl rfl rfl (⟨h7,e9,s3⟩)) ?_)
 rintro w h ⟨rfl,s⟩
 refine ax.nil ⟨⟨aa,aa,aa,aa,aa,aa,aa,aa,aa,aa,aa,aa,aa⟩,?_⟩
 rw[←DM] at s
 refine zr rfl (zb rfl (by exact bx (aA (by omega) (by omega))) ?_)
 refine zm rfl (zv (WP.loop (zg rfl (zh rfl (az rfl rfl aN) (by decide) ?_))))
 refine zk 3 rfl (WP.exit (zK 5 rfl ?_))
 have s:=s.gC
 have UR:=(s.aH (k:=0) rfl (dF _ _)).cells
 obtain⟨cv2,h8,X5,s4⟩:=kq (P:=Tryz.prog) (k:=1) (x:=mk) s gG o8 ij rfl (by decide) (by decide) (by rw[UR.1];rfl) (by rw[UR.1];simp only[gJ,ki,UR.2];rfl)
 rw[UR.1] at s4
 refine ay.any rfl rfl rfl (OpR.of (R:=fun v h'=>v=cv2∧h'=h8) (nk rfl X5) ⟨rfl,rfl⟩) ?_
 rintro cv2 h ⟨rfl,rfl⟩
 have s:=(s4.ae [1]).gX (B:=each (fun v c=>.cg v c) [mk] [M0]) fun a b q=>⟨q,aa⟩
 dsimp only[aL,bringA] at s
 refine zc rfl (LI (kd:=202) (lk:=0) I (by decide) (by decide) (by simp only[tot,aX,cI,ve];decide) rfl s) ?_
 rintro u h ⟨b1,BB,s⟩
 refine zc rfl (Nr (i:=1) I (by omega) mF DI (by omega) (s.ae [1,0]) (bu _ _) BB) ?_
 rintro v h ⟨tu,rfl,vr,mS,uK,s⟩
 dsimp only[aL,bringA] at s
 have hd:=hd.sm mS
 refine za rfl (zv (zg rfl (zm rfl (zh rfl (az rfl rfl aD) (rfl) (zv (zj rfl (WP.skip (zr rfl (zm rfl (zb rfl (by exact bx (aA (by omega) (by omega))) ?_))))))))))
 refine zk 2 rfl (WP.loop (zK 5 rfl (zC rfl aN (by decide) ?_)))
 refine zk 2 rfl (WP.exit (WPd.seq (WPd.of_wp rfl (zK 2 rfl (zo rfl (dn rfl (DV (kd:=1))) (zc rfl (Ts (kd:=1) I (by omega) vr uK (by omega) (by decide) (by decide) hd hf s) ?_))))))
 rintro v h ⟨aM,Zj,rfl,US,mh,hd4,s,P6⟩
 have Gh:fW N R M0 (pgG (cG ((1:Nat):Int) b1 (cG ((0:Nat):Int) b0 [])) tu):=by
  refine⟨⟨0,?_⟩,Zh,⟨202,0,0,?_⟩,ve,by omega,by omega,fun j hj=>by rw[Aq,fL hj],fun j hj=>by rw[Aq,fE (by omega)]⟩
  ·rw[kr,ak (by decide),kr,aJ (by decide)];exact tU
  ·rw[kr,aJ (by decide)];exact BB
 refine zk 4 rfl (zv (WPd.seq (WPd.of_wp rfl (zr rfl (zk 2 rfl (zv (WPd.of_wp rfl (WP.ret ?_))))))))
 have s:=s.ae [1]
 have s:=br.1 s
 have s:=s.ae [4]
 obtain⟨v2,h2,uY,rfl,s⟩:=MW I s
 have s:=s.ae [1,1,1,1]
 have s:Sat h2 (SA a p q r .cy data aB Zj::_):=br.2 s
 have IS:Bi 33=none:=I.free _ rfl
 exact⟨aa,h2,_,Ky (C:=CB) IS Tryz.func33 rfl rfl uY,qx rfl,rfl,Zj,US,Gh.done uK mh,hd4,((s.del 3).del 2).del 1,tu,_,aM,vr,(fF.trans jC).trans mS,uK,fun i hi=>by rw[gD,ak (by omega),gD,ak (by omega)];rfl,P6⟩
end
section
variable {told:dc} {v:V} {kd:Nat}
def mG (f:Nat→Bool)(k:Nat): List Nat:=(List.range k).filter f
theorem yl {f:Nat→Bool}: mG f (k+1)=if f k then mG f k++[k] else mG f k:=by
 grind[mG,List.range_succ]
theorem wT {f:Nat→Bool}: (mG f k).length≤k:=by
 grind[mG]
theorem Jo (s:Sat h (.arr 1 v (dM l)::S))(hl:l.length≤1048576):
  ∃I J w h2,buildSliceV Tryz.prog h 33 1 [(0,.int .i64 (k:Int))]=some (I,J)∧appendV Tryz.prog J #[33,33] v I=some (w,h2)∧Sat h2 (.arr 1 w (dM (l++[k]))::S):=by
 obtain⟨I,J,e1,s1⟩:=kq (P:=Tryz.prog) (k:=1) (x:=.int .i64 (k:Int)) s dI C8 ke rfl (by decide) (by decide) rfl rfl
 obtain⟨i1,jZ,jv,u_⟩:=xK
 obtain⟨w,h2,e2,s2⟩:=iG (s1.ae [1,0]) dI jZ C8 jv (by omega) rfl (by decide) (by simp only[fV,V.cells,aX,cI];omega)
 refine⟨I,J,w,h2,e1,e2,?_⟩
 have e:dM (l++[k])=dM l++[.int .i64 (k:Int)]:=by simp[dM]
 rw[e]
 exact s2.del 1
noncomputable def usL : Code:=cD [1,1,1,1,0,1,0,0,1,1,0,0,1,1,1,1,0,0] ((Tryz.f25.body).getD .skip)
theorem QG (hT:W told)(mR:M.length=375)(hn:n≤3000): ∀(m k:Nat) (v:V) (h:H) (E:List (Nat×V)) (Q:Ex→List (Nat×V)→H→Prop),k+m=n →
  Sat h (.arr 1 v (dM (mG (bt M) k))::aV u M::S)→Has E [(7,v),(8,.int .i64 0),(10,u),(24,.int .i64 1),(25,.int .i64 0),(42,.int .i64 (n:Int)),(43,.int .i64 (k:Int))] →
  (∀v' E' h',Has E' [(7,v'),(24,.int .i64 1),(25,.int .i64 0)]→Sat h' (.arr 1 v' (dM (mG (bt M) n))::aV u M::S)→Q (.exit 2) E' h')→WP ⟨Tryz.prog,told⟩ 70 (.loop usL) E h Q:=by
 intro m
 induction m with
 |zero =>
  intro k v h E Q hk s hE hq
  refine WP.loop (WP.has hE (zg rfl (zC rfl aN (by simp;omega) ?_)))
  refine zk 3 rfl (WP.exit ?_)
  obtain rfl:k=n:=by omega
  exact hq v _ _ ⟨rfl,rfl,rfl,aa⟩ s
 |succ m ih =>
  intro k v h E Q hk s hE hq
  have hb:M[k/8]?=some (M[k/8]'(by omega)):=bA _
  have J:M.getD (k/8) 0=M[k/8]'(by omega):=by rw[gY,hb];rfl
  generalize (M[k/8]'(by omega))=x at hb J
  have hv:=(s.buf (k:=1) rfl).view
  have hx:x<256:=hv.1 x (bI hb)
  have Aq:x.testBit (k%8)=bt M k:=by rw[bt,J]
  obtain⟨id,off,e1,e2⟩:=eo hv hb
  have Uo:x/2^(k%8)<256:=D9 (AL _ _) hx
  have mR:=wT (f:=bt M) (k:=k)
  refine WP.loop (WP.has hE (zg rfl (zB rfl aN (by simp;omega) ?_)))
  refine zk 5 rfl (WP.block (zK 9 rfl (zb rfl (Bq (a:=k) (b:=8) (by decide) (by omega)) ?_)))
  refine zo rfl (cj (r:=.ptr id off) rfl rfl e1) (zl rfl e2 (zm rfl (zb rfl (Ce (a:=k) (b:=8) (by decide)) ?_)))
  refine zb rfl (Qo (a:=x) (k:=k%8) (by omega)) ?_
  refine zb rfl (Qp (b:=1) Uo (by decide)) ?_
  cases I:bt M k with
  |true =>
   refine zB rfl Jk (Aq.trans I) (zk 5 rfl (zb rfl (by exact jT (aA (by omega) (by omega))) ?_))
   refine zm rfl (zb rfl (by exact bx (aA (by omega) (by omega))) ?_)
   obtain⟨iv,h1,w,h2,e3,e4,s2⟩:=Jo (k:=k) s (by omega)
   have ek:(3000:Int)*0+(k:Int)=(k:Int):=by omega
   rw[ek]
   refine ay.any rfl rfl rfl (OpR.of (R:=fun v h'=>v=iv∧h'=h1) (nk rfl e3) ⟨rfl,rfl⟩) ?_
   rintro iv h1 ⟨rfl,rfl⟩
   refine ay.any rfl rfl rfl (OpR.of (R:=fun v h'=>v=w∧h'=h2) (lP rfl rfl e4) ⟨rfl,rfl⟩) ?_
   rintro w h2 ⟨rfl,rfl⟩
   refine za rfl (zv (zr rfl (zb rfl (by exact bx (aA (by omega) (by omega))) ?_)))
   refine zm rfl (zv ?_)
   exact ih (k+1) _ _ _ Q (by omega) (by rw[yl,I,aJ rfl];exact s2) ⟨rfl,rfl,rfl,rfl,rfl,rfl,rfl,aa⟩ hq
  |false =>
   refine zh rfl (az rfl rfl Jk) (Aq.trans I) (zv (zj rfl (WP.skip (zr rfl (zb rfl (by exact bx (aA (by omega) (by omega))) ?_)))))
   refine zm rfl (zv ?_)
   exact ih (k+1) _ _ _ Q (by omega) (by rw[yl,I,ak (by decide)];exact s) ⟨rfl,rfl,rfl,rfl,rfl,rfl,rfl,aa⟩ hq
theorem Tu (hT:W told)(hR:sO told N B rv A pg)(gj:EI N B ε)(hN:2≤N)(J:fW n R M (pg ε))(s:Sat h (A ε::S)):
  Call ⟨Tryz.prog,told⟩ 25 [rv] h fun v h'=>∃w ah,v=.bf [w,.int .i64 0]∧EI N B ah∧Sm N ε ah∧Sat h' (.arr 1 w (dM (mG (bt M) n))::A ah::S):=by
 obtain⟨ex,oI⟩:=J.head
 obtain⟨kd,lk,ow,I⟩:=J.marks
 have hM:=J.ml
 have qd:=J.n2
 have oz:=J.n1
 have mR:=wT (f:=bt M) (k:=n)
 refine Call.of_wp (hT.free _ rfl) Tryz.func25 rfl rfl (zK 8 rfl (zc rfl (Br hT hR gj (by omega) oI J.rl s) ?_))
 rintro v h ⟨u,nr,rfl,jh,fF,s⟩
 refine zk 12 rfl (zC rfl aD (rfl) (zk 11 rfl (zc rfl (uJ hT (by omega) (by omega)) ?_)))
 rintro v h' ⟨rfl,rfl⟩
 refine zb rfl (by exact iX (aA (by omega) (by omega))) ?_
 refine zk 2 rfl (WP.block (WP.loop (zg rfl (zB rfl aN (by decide) ?_))))
 have I:dW (pg nr 1) kd lk ow [M]:=by rw[hR.same fF];exact I
 refine zk 5 rfl (WP.block (zK 9 rfl (zc rfl (Jf hT hR jh hN I hM (s.ae [1])) ?_)))
 rintro v h ⟨w2,u2,jH,rfl,mF,jC,s⟩
 refine zk 12 rfl (zC rfl aD (rfl) (zk 7 rfl (zb rfl (by exact jT (aA (by omega) (by omega))) ?_)))
 refine zb rfl (by exact iX (aA (by omega) (by omega))) ?_
 have em:min (3000:Int) ((n:Int)-3000*0)=(n:Int):=by omega
 refine zo rfl (RN (r:=.int .i64 (n:Int)) rfl rfl (abH.trans (by rw[em]))) ?_
 refine zk 2 rfl (WP.block ?_)
 have s:=s.oO (k:=1)
 refine QG hT hM (by omega) n 0 _ _ _ _ (by omega) s ⟨rfl,rfl,rfl,rfl,rfl,rfl,rfl,aa⟩ (fun v' E' h' hE s' => ?_)
 have s:=s'
 refine WP.has hE (zr rfl (zb rfl (by exact bx (aA (by omega) (by omega))) ?_))
 refine zm rfl (zv (WP.loop (zg rfl (zh rfl (az rfl rfl aN) (by decide) ?_))))
 refine zk 3 rfl (WP.exit (zK 3 rfl (zo rfl (aP rfl rfl rfl (s.ew (n:=(mG (bt M) n).length) (j:=0) rfl (by rw[fV,c_]) (by decide) dI)) ?_)))
 obtain⟨i1,jZ,jv,u_⟩:=xK
 obtain⟨wv,h1,e3,s1⟩:=u7 (P:=Tryz.prog) s dI jZ C8 jv (by omega) rfl (by decide) (by decide) (n:=0) (c:=(mG (bt M) n).length) (by omega) (by omega)
 refine ay.any rfl rfl rfl (OpR.of (R:=fun v h'=>v=wv∧h'=h1) (s_ rfl rfl e3) ⟨rfl,rfl⟩) ?_
 rintro w0 h ⟨rfl,rfl⟩
 have s:Sat h (.arr 1 w0 []::_):=s1
 obtain⟨w3,h2,e4,s2⟩:=iG s dI jZ C8 jv (by omega) rfl (by decide) (by simp only[fV,cI];omega)
 rw[eB] at s2
 refine zm rfl (ay.any rfl rfl rfl (OpR.of (R:=fun v h'=>v=w3∧h'=h2) (lP rfl rfl e4) ⟨rfl,rfl⟩) ?_)
 rintro w3 h ⟨rfl,rfl⟩
 exact zk 3 rfl (WP.ret ⟨aa,_,rfl,_,jH,rfl,mF,fF.trans jC,(((((s2.ae [0,3]).del 5).del 4).del 3).del 2)⟩)
end
def ji (v:V)(cs:List V): aO:=.xs fun x:Nat×Nat×List V×Cap×Bool=>.an (.ro x.1 (.cells x.2.1 (cs++x.2.2.1) x.2.2.2.2)) (.pu (v=.sl x.1 0 cs.length x.2.2.2.1∧cs.length+x.2.2.1.length=x.2.1 ∧
 (match x.2.2.2.1 with|.exact c=>cs.length≤c|.rest e _=>e=1∧1≤cs.length)))
theorem aY.ji (v:V)(cs:List V): aY (Am.ji v cs):=aY.xs fun _=>aY.an (aY.ro _ _) (aY.pu _)
section
variable {v c:V} {cs:List V}
theorem DX (s:Sat h (.arr 1 v cs::S))(hl:1≤cs.length): Sat h (ji v cs::S):=by
 have kU:cs≠[]:=fun e=>by rw[e] at hl;simp at hl
 obtain⟨m,r,q1,q2,q3⟩:=s.at (k:=0) rfl
 rcases q3.2 with⟨_,e⟩|⟨id,n,cap,N,rest,rfl,hg,e1,e2,e3,e4⟩
 ·exact absurd e kU
 ·obtain⟨BE,n',L0,M',J,e,wu,hM',s1,_⟩:=s.Bb kU
  injection e with a1 a2 a3 a4
  subst a1;subst a4
  have lZ:=s1.row (k:=0) rfl
  have I:=q1 _ _ hg
  rw[lZ] at I
  injection I with I
  injection I with b1 b2
  have b2:=List.append_cancel_left b2
  subst b1;subst b2
  have qN:cs.length=n:=by rw[e1,c_]
  refine(ic.2 ⟨(id,M',J,cap,false),s1.freeze.gX fun a b hq=>⟨hq,by rw[qN],e2,?_⟩⟩:Sat h (ji _ _::_))
  cases cap with
  |exact c=>simp only at e4 ⊢;omega
  |rest e alt=>simp only at e4 ⊢;exact⟨e4.1,hl⟩
theorem Sat.Nu (s:Sat h S)(J:getA S j=some (ji v cs)): ∃id M rest cap st,v=.sl id 0 cs.length cap∧cs.length+rest.length=M∧(match cap with|.exact c=>cs.length≤c|.rest e _=>e=1∧1≤cs.length)∧T.get h.tr id=some (.cells M (cs++rest) st):=by
 obtain⟨m,r,h1,h2,x,h3,I⟩:=s.at J
 exact⟨x.1,x.2.1,x.2.2.1,x.2.2.2.1,x.2.2.2.2,I.1,I.2.1,I.2.2,h2 _ _ h3⟩
theorem Sat.Zk (s:Sat h S)(I:getA S j=some (ji v cs)): v.cells=[v]∧storable v=true∧v.beq v=true:=by
 obtain⟨id,M,rest,cap,st,rfl,_⟩:=s.Nu I
 exact⟨rfl,rfl,C2 _ _ _ _⟩
theorem Sat.Jp (s:Sat h S)(I:getA S j=some (ji v cs))(hu:P.underlying t=some (.slice te)): lenV P h t v=some (.int .i64 (cs.length:Int)):=by
 obtain⟨id,M,rest,cap,st,rfl,_⟩:=s.Nu I
 exact C7 hu
theorem Sat.aaG (s:Sat h S)(hj:getA S j=some (ji v cs))(hi:cs[i]?=some c)(hu:P.underlying t=some (.slice te))(I:bJ P te=some 1):
  ∃id off,indexAddrV P t v (.int .i64 (i:Int))=some (.ptr id off)∧∀t',isAggT P t'=some false→loadV P h t' (.ptr id off)=some c:=by
 obtain⟨id,M,rest,cap,st,rfl,hM,_,hg⟩:=s.Nu hj
 have J:=(List.getElem?_eq_some_iff.1 hi).1
 refine⟨id,i,?_,fun t' ha=>OI ha hg ?_⟩
 ·simp only[indexAddrV,hu,I,cS]
  rw[show(decide ((0:Int)≤(i:Int))&&decide ((i:Int)<(cs.length:Int)))=true by simp;omega,aj]
  simp
 ·rw[gP,qP J];exact hi
theorem qJ (s:Sat h (.arr 1 v cs::S))(hi:i<cs.length)(hx:x.cells=[x])(J:storable x=true)(hu:P.underlying t=some (.slice te))(hse:bJ P te=some 1):
  ∃id off h',indexAddrV P t v (.int .i64 (i:Int))=some (.ptr id off)∧hG P h te (.ptr id off) x=some h'∧Sat h' (.arr 1 v (cs.set i x)::S):=by
 have kU:cs≠[]:=fun e=>by rw[e] at hi;simp at hi
 have I:=s.MB (j:=0) rfl
 obtain⟨id,m,cap,M,rest,rfl,hl,hM,s1,hc⟩:=s.Bb kU
 rw[c_] at hl
 obtain⟨h',e1,e2⟩:=s1.eX (P:=P) (t:=te) (k:=0) (off:=i) (v:=x) rfl hse (by rw[bO,hM]) (by omega) hx J
 refine⟨id,i,h',?_,e1,hc h' (cs.set i x) S (bY) ?_ ?_⟩
 ·simp only[indexAddrV,hu,hse,cS]
  rw[show(decide ((0:Int)≤(i:Int))&&decide ((i:Int)<(m:Int)))=true by simp;omega,aj]
  simp
 ·rw[nQ] at I ⊢
  intro y hy
  rcases mV hy with hy|rfl
  ·exact I y hy
  ·exact J
 ·have e3:(cs++rest).set i x=cs.set i x++rest:=List.set_append_left _ _ hi
  dsimp only[setA] at e2
  rw[e3] at e2
  exact e2
end
structure WS (told:dc): Prop where
 w:W told
 fmt:told 31=some (kE Tryz.prog 31 (Jn 31))
theorem LJ {f:Nat→Bool}{m:Nat}: (mG f (k+m)).length=(mG f k).length+((List.range m).filter fun i=>f (k+i)).length:=by
 unfold mG
 rw[List.range_add,List.filter_append,bO,List.filter_map,jw]
 rfl
theorem Tv : ∀k,k≤M.length→(mG (bt M) (8*k)).length=onesL (M.take k):=by
 intro k
 induction k with
 |zero=>intro _;rfl
 |succ k ih =>
  intro hk
  have J:M[k]?=some (M[k]'(by omega)):=bA _
  have I:M.getD k 0=M[k]'(by omega):=by rw[gY,J];rfl
  rw[show 8*(k+1)=8*k+8 by omega,LJ,ih (by omega),DU J]
  congr 1
  unfold tq
  congr 1
  refine AE fun i hi => ?_
  rw[Bt (List.mem_range.1 hi),I]
theorem Tw {f:Nat→Bool}{m:Nat}(h:∀j,n≤j→f j=false): (mG f (n+m)).length=(mG f n).length:=by
 rw[LJ]
 have:((List.range m).filter fun i=>f (n+i))=[]:=List.filter_eq_nil_iff.2 fun i _=>by rw[h _ (by omega)];decide
 rw[this];rfl
theorem fW.abL {P:Int→List Nat}(h:fW n R M P): onesL M=(mG (bt M) n).length:=by
 have I:=Tv (M:=M) 375 (by rw[h.ml];exact aU _)
 rw[eW (by rw[h.ml];exact aU _)] at I
 rw[←I,show 8*375=n+(3000-n) by have:=h.n2;omega,Tw h.hi]
theorem QH {f g:Nat→Bool}(h:∀i,i<n→f i=g i): mG f n=mG g n:=AE fun i hi=>h i (List.mem_range.1 hi)
theorem UT {t:Nat}{p v:V}(I:look E a=some p)(J:loadV P h t p=some v): resLE P E h [.cell a t]=some v:=by simp only[resLE,mapO,resE,I,J]
theorem wU (hi:i<U.length): (eL U)[i]?=some (.bool (U.getD i false)):=by
 rw[eL,nP,bA hi,gY,bA hi];rfl
theorem g_ (U:List Bool): (eL U).length=U.length:=jw _
section
variable {told:dc} {p:Nat} {v w:V}
theorem Gm (hT:WS told){m:Nat}(hB:B≤800)(I:EI N B ε)(hN:4≤N)(J:N≤1000)(hz:(pgA ε 0).length=512)(hg:bW (pgA ε 0)=false)(hd:vt K m ε)(hf:K+520*N+28≤m)(s:Sat h (SA a p q r .cy data aB ε::S)):
  Call ⟨Tryz.prog,told⟩ 31 [.ptr a 0] h fun v h'=>v=.int .i64 0∧∃ah,EI N (B+2) ah∧fW N (List.replicate 64 0) yy (pgA ah)∧vt (K+520*N+28) m ah∧Sat h' (SA a p q r .cy data aB ah::S)∧Zg N B 1 ε ah :=
 Call.defer hT.fmt Ja rfl (QE hB I hN J hz hg hd hf s)
theorem GH (hT:WS told){m:Nat}(hN:4≤n)(QF:n≤1000)(hm:m≤16777216)(hf:520*n+28≤m)(h4:1≤f)(h5:f≤1024)(s:Sat h S):
  Call ⟨Tryz.prog,told⟩ 14 [.int .i64 (n:Int),.int .i64 (m:Int),.int .i64 (f:Int)] h fun v h'=>∃p a q r ε,v=.ptr a 0∧EI n 3 ε∧fW n (List.replicate 64 0) yy (pgA ε)∧vt (520*n+28) m ε∧Sat h' (SA a p q r .cy [] 0 ε::S):=by
 have I:bW (List.replicate 512 0)=false:=by decide +kernel
 refine Call.of_wp (hT.w.free _ rfl) Tryz.func14 rfl rfl (zK 9 rfl (zc rfl (DF (n:=n) (m:=m) (f:=f) hT.w s (by omega) (by omega) hm h4 h5) ?_))
 rintro v h ⟨p,a,q,r,rfl,s⟩
 have s:Sat h (SA a p q r .cy [] 0 (fresh n m f)::S):=br.2 s
 refine zk 10 rfl (zC rfl (vh rY) (rfl) (zk 2 rfl (zc rfl (Gm (K:=0) (m:=m) hT (by decide) (EI.fresh (by omega) hm h4 h5) hN QF (by rw[sn];exact dx) (by rw[sn];exact I) ⟨aU _,rfl⟩ (by omega) s) ?_)))
 rintro v h ⟨rfl,ah,J,hp,hd,s,_⟩
 rw[gK] at hd
 exact zC rfl aD (rfl) (zk 9 rfl (WP.ret ⟨aa,_,rfl,p,a,q,r,ah,rfl,J,hp,hd,s⟩))
theorem sy (I:W told)(s:Sat h (SA a p q r .cy data aB ε::S)): Call ⟨Tryz.prog,told⟩ 15 [.ptr a 0] h fun v h'=>∃g,v=.ptr g 0∧Sat h' (GA g a p q r data aB [] ε::S):=by
 have s:=br.1 s
 have s:Sat h (eA a p q r .cy data aB::dK r p q ε.1::bS q p ε.2.1::aR p ε.2.2::S):=s
 refine Call.of_wp (I.free _ rfl) Tryz.func15 rfl rfl (zK 7 rfl (zc rfl (F0 I s) ?_))
 rintro v h ⟨g,rfl,s⟩
 exact zk 10 rfl (zC rfl aD (rfl) (zk 8 rfl (WP.ret ⟨aa,_,rfl,g,rfl,br.2 s⟩)))
theorem qm (I:W told)(J:1≤n)(h2:n≤3000): Call ⟨Tryz.prog,told⟩ 21 [.int .i64 (n:Int)] h fun r h'=>r=.int .i64 2∧h'=h:=by
 have e:(n+2999)/3000=1:=by omega
 refine Call.of_wp (I.free _ rfl) Tryz.func21 rfl rfl (zK 7 rfl (zb rfl (by exact bx (aA (by omega) (by omega))) ?_))
 refine zo rfl (az (r:=.int .i64 (((n+2999)/3000:Nat):Int)) rfl rfl (by rw[show(n:Int)+2999=((n+2999:Nat):Int) by omega];exact Bq (by decide) (by omega))) ?_
 rw[e]
 refine zb rfl (by exact bx (aA (by omega) (by omega))) ?_
 exact zk 2 rfl (WP.ret ⟨aa,_,rfl,rfl,rfl⟩)
noncomputable def liL : Code:=cD [1,1,0,1,0,0] ((Tryz.f67.body).getD .skip)
theorem QI (hl:L.length≤1048576)(s:Sat h (.arr 1 v (dM L)::.arr 1 w (dM L)::S)): ∀(m i:Nat) (E:List (Nat×V)) (Q:Ex→List (Nat×V)→H→Prop),i+m=L.length→Has E [(0,v),(1,w),(5,.int .i64 (i:Int))] →
  (∀E',Q (.exit 0) E' h)→WP ⟨Tryz.prog,told⟩ 26 (.loop liL) E h Q:=by
 intro m
 induction m with
 |zero =>
  intro i E Q hi J hq
  refine WP.loop (WP.has J (zK 5 rfl (zo rfl (aP rfl rfl rfl (s.ew (n:=L.length) (j:=0) rfl (by rw[fV,c_]) (by decide) dI)) ?_)))
  refine zC rfl aN (by simp;omega) ?_
  exact zk 2 rfl (WP.exit (hq _))
 |succ m ih =>
  intro i E Q hi J hq
  have hx:(dM L)[i]?=some ((dM L)[i]'(by rw[fV];omega)):=bA _
  obtain⟨k,hk⟩:∃k:Nat,(dM L)[i]?=some (.int .i64 (k:Int)):=by
   rw[dM,nP,bA (by omega)];exact⟨_,rfl⟩
  obtain⟨id,off,e1,e2⟩:=iz (P:=Tryz.prog) s (k:=0) (i:=i) rfl hk dI ke
  obtain⟨iR,I,e3,e4⟩:=iz (P:=Tryz.prog) s (k:=1) (i:=i) rfl hk dI ke
  refine WP.loop (WP.has J (zK 5 rfl (zo rfl (aP rfl rfl rfl (s.ew (n:=L.length) (j:=0) rfl (by rw[fV,c_]) (by decide) dI)) ?_)))
  refine zB rfl aN (by simp;omega) ?_
  refine zk 4 rfl (WP.block (zw (WP.drawn [af,af,af,af,af,af,af,af,af] rfl (by kernel_rfl) (by kernel_rfl) ?_)))
  refine zM rfl (zM rfl (zO rfl (cj (r:=.ptr id off) rfl rfl e1) (zL rfl (e2 _ cL) (zM rfl (zM rfl (zO rfl (cj (r:=.ptr iR I) rfl rfl e3) (zL rfl (e4 _ cL) (ax.kC rfl rfl rfl rfl (az rfl rfl aD) (by simp) ?_))))))))
  refine ax.nil ⟨⟨aa,aa,aa,aa,aa,aa,aa,aa,aa,aa⟩,?_⟩
  refine zj rfl (WP.skip (zr rfl (zm rfl (zb rfl (by exact bx (aA (by omega) (by omega))) ?_))))
  refine za rfl (zv ?_)
  exact ih (i+1) _ Q (by omega) ⟨rfl,rfl,rfl,aa⟩ hq
theorem WC (I:W told)(J:L.length≤1048576)(s:Sat h (.arr 1 v (dM L)::.arr 1 w (dM L)::S)): Call ⟨Tryz.prog,told⟩ 67 [v,w] h fun r h'=>r=.bool true∧h'=h:=by
 refine Call.of_wp (I.free _ rfl) Tryz.func67 rfl rfl (zK 8 rfl (zo rfl (aP rfl rfl rfl (s.ew (n:=L.length) (j:=0) rfl (by rw[fV,c_]) (by decide) dI)) ?_))
 refine zm rfl (zo rfl (aP rfl rfl rfl (s.ew (n:=L.length) (j:=1) rfl (by rw[fV,c_]) (by decide) dI)) ?_)
 refine zC rfl aD (by simp) ?_
 refine zk 8 rfl (WP.block ?_)
 refine QI J s L.length 0 _ _ (by omega) ⟨rfl,rfl,rfl,aa⟩ (fun E' => ?_)
 exact WP.has (F:=[]) aa (zK 4 rfl (WP.ret ⟨aa,_,rfl,rfl,rfl⟩))
noncomputable def luL : Code:=cD [1,1,0,1,0,0] ((Tryz.f68.body).getD .skip)
theorem Nv : ∀(m i:Nat) (v:V) (h:H) (E:List (Nat×V)) (Q:Ex→List (Nat×V)→H→Prop),i+m=U.length→U.length≤3000 →
  Sat h (.arr 1 v (dM (mG (fun i=>U.getD i false) i))::pt p1 (.cells 17 (uv::Rt) false)::ji uv (eL U)::S)→Has E [(1,.ptr p1 0),(3,v),(4,.int .i64 (i:Int))] →
  (∀v' E' h',Has E' [(3,v')]→Sat h' (.arr 1 v' (dM (mG (fun i=>U.getD i false) U.length))::pt p1 (.cells 17 (uv::Rt) false)::ji uv (eL U)::S)→Q (.exit 0) E' h')→WP ⟨Tryz.prog,told⟩ 22 (.loop luL) E h Q:=by
 intro m
 induction m with
 |zero =>
  intro i v h E Q hi hu s J I
  have hlen:=s.Jp (P:=Tryz.prog) (j:=2) rfl gx
  rw[g_] at hlen
  refine WP.loop (WP.has J (zK 4 rfl (zY s 1 eG iJ rfl (zo rfl (aP rfl rfl rfl hlen) (zC rfl aN (by simp;omega) ?_)))))
  refine zk 2 rfl (WP.exit ?_)
  obtain rfl:i=U.length:=by omega
  exact I v _ _ ⟨rfl,aa⟩ s
 |succ m ih =>
  intro i v h E Q hi hu s J I
  have hlen:=s.Jp (P:=Tryz.prog) (j:=2) rfl gx
  rw[g_] at hlen
  obtain⟨id,off,e1,e2⟩:=s.aaG (P:=Tryz.prog) (j:=2) rfl (wU (U:=U) (i:=i) (by omega)) gx ox
  have mR:=wT (f:=fun i=>U.getD i false) (k:=i)
  refine WP.loop (WP.has J (zK 4 rfl (zY s 1 eG iJ rfl (zo rfl (aP rfl rfl rfl hlen) (zB rfl aN (by simp;omega) ?_)))))
  refine zk 4 rfl (WP.block (zg rfl (zY s 1 eG iJ rfl (zm rfl (zo rfl (cj (r:=.ptr id off) rfl rfl e1) (zl rfl (e2 _ jK) ?_))))))
  cases hb:U.getD i false with
  |true =>
   refine zk 5 rfl ?_
   obtain⟨iv,h1,w,h2,e3,e4,s2⟩:=Jo (k:=i) s (by omega)
   refine ay.any rfl rfl rfl (OpR.of (R:=fun v h'=>v=iv∧h'=h1) (nk rfl e3) ⟨rfl,rfl⟩) ?_
   rintro iv h1 ⟨rfl,rfl⟩
   refine ay.any rfl rfl rfl (OpR.of (R:=fun v h'=>v=w∧h'=h2) (lP rfl rfl e4) ⟨rfl,rfl⟩) ?_
   rintro w h2 ⟨rfl,rfl⟩
   refine za rfl (zv (zr rfl (zm rfl (zb rfl (by exact bx (aA (by omega) (by omega))) ?_))))
   refine za rfl (zv ?_)
   exact ih (i+1) _ _ _ Q (by omega) hu (by rw[yl];simp only[hb,aJ];exact s2) ⟨rfl,rfl,rfl,aa⟩ I
  |false =>
   refine zv (zj rfl (WP.skip (zr rfl (zm rfl (zb rfl (by exact bx (aA (by omega) (by omega))) ?_)))))
   refine za rfl (zv ?_)
   exact ih (i+1) _ _ _ Q (by omega) hu (by rw[yl];simp only[hb];exact s) ⟨rfl,rfl,rfl,aa⟩ I
theorem Cs (J:W told)(I:(uv::Rt).all storable=true)(hR:Rt.length=16)(hu:U.length≤3000)(s:Sat h (ji uv (eL U)::S)):
  Call ⟨Tryz.prog,told⟩ 68 [.agg (uv::Rt)] h fun v h'=>Sat h' (.arr 1 v (dM (mG (fun i=>U.getD i false) U.length))::ji uv (eL U)::S):=by
 refine Call.of_wp (J.free _ rfl) Tryz.func68 rfl rfl (zg rfl (ay.b8 s rfl rfl rfl (fg rfl I) ?_))
 intro p1 h s
 dsimp only[V.cells,List.length_cons] at s
 rw[hR] at s
 have s:Sat h (pt p1 (.cells 17 (uv::Rt) false)::_):=s
 refine zk 11 rfl (WP.block ?_)
 have s:=s.oO (k:=1)
 refine Nv U.length 0 _ _ _ _ (by omega) hu s ⟨rfl,rfl,rfl,aa⟩ (fun v' E' h' hE s' => ?_)
 have s:=s'
 exact WP.has hE (zK 5 rfl (WP.ret ⟨aa,_,rfl,s.del 1⟩))
end
section
variable {kd:Nat}
theorem DnR.seven (hr:DnR ε now kd tx 0 0 [] 0 aM e cl ah)(I:EI N B ε)(hB:B≤1000)(hw:NW N now)(hN:N≤1024)(h1:1≤kd)(h2:kd≤7)(FW:tx<16384):
  (cl=false∧e=7)∨(cl=true∧e=0∧bG ah≤bG ε+now.length∧ah.2.2.room=ε.2.2.room∧ah.2.2.log.length≤ε.2.2.room):=by
 have J:∀n∈aE now,0≤n∧n<N:=fun n hq=>hw.keys n (fu.1 hq)
 have Ns:=I.done hB hw (by omega) (by omega) hr
 cases hr with
 |arg hh=>omega
 |dead _ _ _ hd=>omega
 |kf e c ah _ _ _ _ hc Iw=>exact absurd (hc.ec I.ec I.ok J).2.2 Iw
 |app c jH _ _ _ _ hc Iw =>
  have va:=yj (kd:=kd) hc hw hw.len (by omega) FW
  grind[ff]
 |put c jH e tu _ _ _ _ hc ha hp =>
  rcases Ns with⟨kz,_⟩|⟨_,he,_⟩
  ·grind
  ·have hP:=(rH ε.2.2.log.length ε.2.2.room).ch hc ⟨rfl,rfl⟩
   have hi:EI N B jH:=⟨hc.jg I.ok,(hc.ec I.ec I.ok J).1,hc.el I.el,bT hc.bG I.bG⟩
   have hpc:=hc.bG
   have fA:dY kd c=true:=by
    refine xP ⟨by omega,by omega⟩ (hc.fit (fun x hx=>eC (hw.good x hx).1) fun n hq => ?_)<;>grind
   obtain⟨a1,_,_⟩:=hi.app (kd:=kd) (tx:=tx) (pv:=0) (nx:=0) (data:=[]) (c:=c) hB fA
   have KS:=hp.bG a1.ok
   have hkl:(aE now).length=now.length:=rG
   rcases ff jH.2 kd tx 0 0 [] c with⟨e,he,wo,hq⟩|⟨_,Zf,hq⟩|⟨_,hb,uQ,fA,Zf,hq⟩
   ·grind
   ·grind
   ·rw[hq] at hp KS
    have ku:=(rH (ε.2.2.log.length+(cA jH.2.1 kd tx 0 0 [] c).length) ε.2.2.room).pt hp ⟨by grind,hP.2⟩
    grind[bG]
end
abbrev gN : Int→List Nat:=fun _=>List.replicate 512 0
structure mT (N M B:Nat)(rs:List ct)(ε:aZ): Prop where
 ei:EI N B ε
 ex:∃g,RS N 1 0 [] rs gN g ε
 pt:bG ε≤szB rs
 rm:ε.2.2.room=M
 sz:szB rs≤M
 mb:M≤B*65536
 b9:1≤B∧B≤900
theorem mT.sm {M:Nat}(h:mT N M B rs ε)(he:EI N B ah)(hs:Sm N ε ah): mT N M B rs ah:=by
 obtain⟨g,I⟩:=h.ex
 exact⟨he,⟨g,I.pre hs.2.1 hs.1⟩,bT hs.2.2 h.pt,hs.2.1 _ ((sx M).kI N) h.rm,h.sz,h.mb,h.b9⟩
theorem ChR.cY {l:List Int}{cs:List cn}(I:ChR now l ε e cs ah): e=0→l.length≤cs.length:=by
 induction I<;>grind[List.length_pos_iff,I8]
theorem mT.done {M kd:Nat}(h:mT N M B rs ε)(hw:NW N now)(hN:N≤1024)(h1:1≤kd)(h2:kd≤7)(hr:DnR ε now kd 0 0 0 [] 0 aM 0 true ah):
  ∃r,mT N M B (rs++[r]) ah∧aM=1+szB rs:=by
 obtain⟨g,I⟩:=h.ex
 have Zl:=h.b9
 have sI:=h.mb
 obtain⟨r,g',k1,_,_,_,_,_,k7,J,k9,Y2,k11,_,nr,iI⟩:=hr.ri h.ei (by omega) hw I.lr h1 h2 (by decide) I.ri I.st I.gd
 rcases hr.seven h.ei (by omega) hw hN h1 h2 (by decide) with⟨q,_⟩|⟨_,_,q1,q2,q3⟩
 ·cases q
 rcases h.ei.done (by omega) hw (by omega) (by omega) hr with⟨q,_⟩|⟨_,_,he,_⟩
 ·cases q
 have hlen:ah.2.2.log.length=szB (rs++[r]):=by rw[J.log,gn]
 have hb:=J.b
 have va:ah.2.1.b.length=szB (rs++[r]):=by rw[hb,gn]
 have Du:now.length≤r.len:=by
  have c1:=iI.cY rfl
  have c2:=(ya (kd:=r.kd) (tx:=r.tx) (pv:=r.pv) (nx:=r.nx) (data:=r.data) (aQ:=r.aQ)).2
  have c3:(aE now).length=now.length:=rG
  have c4:r.len=8+(dy r.kd r.tx r.pv r.nx r.data r.aQ).length:=rfl
  omega
 have e2:szB (rs++[r])=szB rs+r.len:=by rw[om];simp[szB]
 have hp:=h.pt
 rw[h.rm] at q2 q3
 refine⟨r,⟨⟨he.ok,he.ec,⟨he.el.log,he.el.cert,?_⟩,?_⟩,⟨g',J,k9,Y2,k11⟩,by omega,q2,by omega,sI,Zl⟩,k7⟩
 ·rw[J.base,va];omega
 ·omega
def Zm (rs:List ct)(ε:aZ): Prop:=ε.2.1.forced=szB rs
theorem mT.force {M:Nat}{r:ct}(h:mT N M B (rs++[r]) ε): (aI ε.2 (1+szB rs)).1=0∧mT N M B (rs++[r]) (ε.1,(aI ε.2 (1+szB rs)).2)∧Zm (rs++[r]) (ε.1,(aI ε.2 (1+szB rs)).2)∧∀m,pgA (ε.1,(aI ε.2 (1+szB rs)).2) m=pgA ε m:=by
 obtain⟨f1,f2,f3⟩:=h.ei.force (n:=1+szB rs)
 obtain⟨g,hg⟩:=h.ex
 have Du:=vJ r
 have e2:szB (rs++[r])=szB rs+r.len:=by rw[om];simp[szB]
 obtain⟨x',I,J,cE,w1,w2,w3⟩:=(mz.1 hg.ri).force (1+szB rs) (by omega)
 have I_:=(my 1 0 [] (rs++[r])).force ε.2 (1+szB rs) hg.lr
 rw[I] at f2 f3 I_ ⊢
 refine⟨rfl,⟨f2,⟨g,I_,mz.2 J,fun n a b=>by rw[f3];exact hg.st n a b,hg.gd⟩,?_,?_,h.sz,h.mb,h.b9⟩,?_,f3⟩
 ·have:bG (ε.1,x')=bG ε:=by unfold bG;rw[w1]
  rw[this];exact h.pt
 ·have:=(sx M).force ε.2 (1+szB rs) h.rm
  rw[I] at this;exact this
 ·obtain⟨u,v,hu,hf⟩:=J.forced
  show x'.1.forced=_
  rcases tv v with rfl|⟨v,z,rfl⟩<;>grind[List.append_inj',qH]
structure Nw (N B f:Nat)(c:List Nat)(F:Nat)(rs:List ct)(δ:Dk)(u:List ct)(j:List Nat): Prop where
 pre:∃w,rs=u++w
 all:F≤szB u
 ag:oG (fS δ c) 65536
 mark:(fS δ c).mark=[]
 log:(fS δ c).log=logB 1 u++j
 Ro:rF j
 ok:∀r∈u,r.Ok
 len:1+(fS δ c).log.length≤1099511627776
 CE:(eZ (fS δ c) 1 u [] u).1=0
 ei:EI N B (Pl.fresh f,(iZ 1 0 u,(eZ (fS δ c) 1 u [] u).2))
 pg:∀n,0≤n→n<(N:Int)→jb (eu u gN n) (pgA (Pl.fresh f,(iZ 1 0 u,(eZ (fS δ c) 1 u [] u).2)) n)
theorem yb.wV {u v r2:List ct}(h:yb 1 gN u v [] r2 δ)(hu:rs=u++v)(hF:F≤szB u)(CG:δ.Cr)(DM:δ.mark=[])(mh:δ.aq.length=N)(fU:1+szB rs≤B*1048600)(hB:1≤B∧B≤900)(c:List Nat)(hf:1≤f)(F_:f≤1024): ∃u j,Nw N B f c F rs δ u j:=by
 obtain⟨I,Fg⟩:=S5 (c:=c) CG
 have e2:r2=u:=by have:=h.split;simpa using this.symm
 subst e2
 obtain⟨t,t',oN,J⟩:=h.aaB c
 have Fw:OpD 1 gN (r2++t) [] (r2++t) N (fS δ c):=⟨J,rfl,by omega,fun k hk=>(by cases hk),kO,fun n b hb=>(by cases hb)⟩
 obtain⟨j,e1,e2⟩:=Fw.Y5
 have hlen:(fS δ c).log.length≤16777216:=I.ok.len
 have hlu:szB (r2++t)≤szB rs:=by grind[qH]
 obtain⟨o1,o2,o3⟩:=Fw.eng (aB:=0) (B:=B) (f:=f) rfl rfl rfl S4 I.ok hf F_ hB.1 (by omega) (by omega) (by decide)
 exact⟨r2++t,j,⟨t',by grind⟩,bT hF qH,I,DM,e1,e2,o3.lr.rs,by omega,o1,o2,fun n h0 h1=>o3.st n h0 h1⟩
theorem Zn {g:Int→Option Nat}(h:∀n rec,g n=some rec→1≤rec): P9 1 0 [] rs [] F g:=⟨fun n rec I=>by
 grind[szB],.inl ⟨rfl,rfl,rfl⟩⟩
theorem mT.fresh {M:Nat}(hN:N≤65536)(hm:M≤16777216)(J:1≤B∧B≤900)(I:M≤B*65536)(h4:1≤f)(h5:f≤1024): mT N M B [] (Am.fresh N M f):=by
 have e:fR (Pl.fresh f).ai=0:=by
  rw[fR,List.count_eq_zero]
  intro hh
  obtain⟨x,hx,hc⟩:=List.mem_map.1 hh
  rw[vQ hx] at hc
  cases hc
 exact⟨(EI.fresh hN hm h4 h5).more J.1,⟨_,RS.fresh⟩,by show([]:List Wr).length+fR (Pl.fresh f).ai≤_;rw[e];exact fX _,rfl,fX _,I,J⟩
theorem mT.fmt {M:Nat}(h:mT N M B rs ε)(I:N≤1024)(J:Zg N B 1 ε ah): ∃r,mT N M B (rs++[r]) ah:=by
 obtain⟨nr,now,aM,h1,h2,h3,h4,h5⟩:=J
 obtain⟨r,hr,_⟩:=(h.sm h1 h2).done h3 I (by decide) (by decide) h5
 exact⟨r,hr⟩
section
variable {M kd:Nat} {n:Int}
theorem DnR.jg (hr:DnR ε now kd tx 0 0 [] 0 aM e cl ah)(h:fD ε)(hl:ε.2.1.b=ε.2.2.log)(hz:ε.2.1.base+ε.2.1.b.length+1048584≤1099511627776): fD ah∧bG ah≤bG ε+now.length∧(cl=false→bG ah≤bG ε):=by
 have hkl:(aE now).length=now.length:=rG
 have ap:∀ {c:List cn} {I:aZ},ChR now (aE now) ε 0 c I→fD (I.1,(aF I.2 kd tx 0 0 [] c).2)∧bG (I.1,(aF I.2 kd tx 0 0 [] c).2)≤bG ε:=fun {c I} J=>by
  have h3:=J.jg h
  have vc:=J.same
  have Lk:=vH (x:=I.2) (kd:=kd) (tx:=tx) (pv:=0) (nx:=0) (data:=[]) (c:=c) h3.ok.lg h3.ok.dk (by rw[vc.b,vc.log];exact hl) (by rw[vc.base,vc.b];exact hz)
  have hp:=J.bG
  refine⟨⟨⟨h3.ok.pl,Lk.1,Lk.2.1⟩,h3.pins,h3.full⟩,?_⟩<;>grind[bG]
 cases hr with
 |arg _=>grind
 |dead _ _ _ _=>grind
 |kf e c ah _ _ _ _ J _=>exact⟨J.jg h,by have:=J.bG;omega,fun _=>J.bG⟩
 |app c I _ _ _ _ J _=>grind
 |put c I e jH _ _ _ _ J _ hp =>
  obtain⟨a1,a2⟩:=ap J
  have:=hp.bG a1
  exact⟨hp.jg a1,by omega,fun q=>by cases q⟩
theorem nK.in9 (I:nK ε now false n b e bR ah)(he:e=9): bR=now:=by
 cases I with
 |may e c ah I he=>rfl
 |bad c ah I J=>rfl
 |done c ah I J=>cases he
structure iE (N M B F:Nat)(rs:List ct)(ε:aZ): Prop where
 fm:∃g,FM N B 1 0 [] rs gN g F ε
 pt:bG ε≤szB rs
 rm:ε.2.2.room=M
 sz:szB rs≤M
 mb:M≤B*65536
 b9:1≤B∧B≤900
structure Dd (N F:Nat)(rs:List ct)(ε:aZ): Prop where
 dead:ε.2.2.dead=true
 ok:fD ε
 pt:bG ε≤268435456
 gd:uI rs gN
 ex:∃g,sN N 1 0 [] rs gN g F ε.2.2
def Nx (ε ah:aZ): Prop:=∀m,pgA ah m=pgA ε m
theorem iE.log (h:iE N M B F rs ε): ε.2.1.b=ε.2.2.log:=by obtain⟨g,I⟩:=h.fm;exact I.ei.el.log
theorem iE.ok (h:iE N M B F rs ε): fD ε:=by obtain⟨g,I⟩:=h.fm;exact I.ok
theorem iE.size (h:iE N M B F rs ε): ε.2.1.base+ε.2.1.b.length+1048584≤1099511627776:=by
 obtain⟨g,I⟩:=h.fm
 have J:ε.2.1.base+ε.2.1.b.length≤B*1048600:=I.ei.el.size
 have:=h.b9
 omega
theorem iE.E_ (h:iE N M B F rs ε): bG ε≤58982400:=by
 have I:=h.pt
 have J:=h.sz
 have h3:=h.mb
 have h4:=h.b9
 omega
theorem iE.next (h:iE N M B F rs ε)(I:bG ah≤bG ε)(hs:(∀P:VP,mu N P→vw P (bz ε)→vw P (bz ah)))(J:∃g,FM N B 1 0 [] rs gN g F ah): iE N M B F rs ah :=
 ⟨J,bT I h.pt,hs _ ((sx M).kI N) h.rm,h.sz,h.mb,h.b9⟩
theorem iE.die (h:iE N M B F rs ε)(hp:bG ah≤bG ε+65536)(ho:fD ah)(I:ah.2.2.dead=true)(J:∃g,sN N 1 0 [] rs gN g F ah.2.2): Dd N F rs ah:=by
 have:=h.E_
 obtain⟨g,hg⟩:=h.fm
 exact⟨I,ho,by omega,hg.gd,J⟩
theorem iE.qh (h:iE N M B F rs ε)(I:GRd ε now false n e b ah): (e=9∧Dd N F rs ah)∨(iE N M B F rs ah∧Nx ε ah∧(0≤n→n<(N:Int)→e=0∧b=pgG now ε n)):=by
 obtain⟨g,J⟩:=h.fm
 rcases J.qh I with⟨k1,k2,k3⟩|⟨k1,k2,k3⟩
 ·exact .inl ⟨k1,h.die (bT I.bG (AI _ _)) (I.jg h.ok) k2 ⟨g,k3⟩⟩
 ·have:=k2.ec J.ei.ec J.ei.ok.pins
  exact .inr ⟨h.next I.bG (fun P hP hv=>hP.qh k2 J.ei.ec hv) ⟨g,k1⟩,k3,this.2.2.1⟩
theorem iE.yu (h:iE N M B F rs ε)(I:nK ε now false n b e bR ah): (e=9∧bR=now∧Dd N F rs ah)∨(iE N M B F rs ah∧Nx ε ah∧(0≤n→n<(N:Int)→bW b=true→e=0∧bR=cG n b now)):=by
 obtain⟨g,J⟩:=h.fm
 rcases J.yu I with⟨k1,k2,k3⟩|⟨k1,k2,k3⟩
 ·exact .inl ⟨k1,I.in9 k1,h.die (bT I.bG (AI _ _)) (I.jg h.ok) k2 ⟨g,k3⟩⟩
 ·have:=k2.ec J.ei.ec J.ei.ok.pins
  exact .inr ⟨h.next I.bG (fun P hP hv=>hP.yu k2 J.ei.ec hv) ⟨g,k1⟩,k3,this.2.2.2.2⟩
theorem Dd.qh (h:Dd N F rs ε)(I:GRd ε now false n e b ah): ah=ε:=by
 cases I with
 |arg _=>rfl
 |cz _ _ q=>cases q
 |own _ _ _ _ _=>rfl
 |read e b ah _ _ _ _ I =>
  cases I<;>grind[dead]
theorem iE.done (h:iE N M B F rs ε)(hw:NW N now)(hN:N≤1024)(J:1≤kd)(h2:kd≤7)(hr:DnR ε now kd 0 0 0 [] 0 aM e cl ah):
  (e=9∧aM=0∧(Dd N F rs ah∨∃r,Dd N F (rs++[r]) ah∧∀n,0≤n→n<(N:Int)→jb (eu (rs++[r]) gN n) (pgG now ε n))) ∨
  (e=7∧cl=false∧iE N M B F rs ah)∨(e=0∧cl=true∧∃r,iE N M B F (rs++[r]) ah∧aM=1+szB rs∧∀m,pgA ah m=match lookL m now with|some b=>cT b aM|none=>pgA ε m):=by
 obtain⟨g,I⟩:=h.fm
 obtain⟨o1,o2,o3⟩:=hr.jg h.ok h.log h.size
 have Zl:=h.b9
 have sI:=h.mb
 have hnl:=hw.len
 have hp9:=h.E_
 have Ho:=hr.room h.rm
 have KS:=h.pt
 have fU:=h.sz
 rcases hr.mE I.fs I.ei (by omega) hw J h2 (by decide) I.st I.gd with⟨k1,k2⟩|⟨k1,k2,k3,k4⟩|⟨k1,k2,k3,r,g',k4,k5,k6,k7,k8⟩
 ·have nu:F≤ah.2.1.forced:=by
   have hle:ε.2.1.forced≤ε.2.1.b.length:=I.fs.le
   have:=(k2.forced (F:=ε.2.1.forced) ⟨aU _,hle⟩).1
   exact bT I.fo this
  -- how long the log is
  have fin:∀ {er:List ct} {B2:Nat} {g2:Int→Option Nat},LR 1 0 [] er (bz ah).2→vw (RI 1 sM gN er g2) (bz ah)→EI N B2 (bz ah)→Ah N er gN (bz ah)→uI er gN→szB er≤M→bG ah≤szB er→iE N M B F er ah:=fun {er B2 g2} a1 a2 a3 a4 a5 a6 a7=>by
   refine⟨⟨g2,o1,⟨k1,a2,a1,a3.ec,o1.ok.dk.len⟩,⟨a3.ok,a3.ec,⟨a3.el.log,a3.el.cert,?_⟩,?_⟩,a4,a5,nu⟩,a7,Ho,a6,sI,Zl⟩
   ·rw[a1.base,a1.b,gn];omega
   ·have:bG (bz ah)=bG ah:=rfl
    omega
  rcases k2.seven I.ei (by omega) hw hN J h2 (by decide) with⟨rfl,rfl⟩|⟨rfl,rfl,q1,q2,q3⟩
  ·obtain⟨j1,j2,j3⟩:=k2.ri0 I.ei (by omega) hw I.fs.lr J h2 I.fs.ri I.st
   rcases I.ei.done (by omega) hw (by omega) (by omega) k2 with⟨_,_,he,_⟩|⟨q,_⟩
   ·exact .inr (.inl ⟨rfl,rfl,fin j1 j2 he j3 I.gd fU (by grind)⟩)
   ·cases q
  ·obtain⟨r,g',r1,_,_,_,_,_,r7,r8,r9,r10,r11,_,nr,iI⟩:=k2.ri I.ei (by omega) hw I.fs.lr J h2 (by decide) I.fs.ri I.st I.gd
   rcases I.ei.done (by omega) hw (by omega) (by omega) k2 with⟨q,_⟩|⟨_,_,he,mh⟩
   ·cases q
   have Du:now.length≤r.len:=by
    have c1:=iI.cY rfl
    have c2:=(ya (kd:=r.kd) (tx:=r.tx) (pv:=r.pv) (nx:=r.nx) (data:=r.data) (aQ:=r.aQ)).2
    have c3:(aE now).length=now.length:=rG
    have c4:r.len=8+(dy r.kd r.tx r.pv r.nx r.data r.aQ).length:=rfl
    omega
   have e2:szB (rs++[r])=szB rs+r.len:=by rw[om];simp[szB]
   have hlen:ah.2.2.log.length=szB (rs++[r]):=by
    have:(bz ah).2.2.log.length=szB (rs++[r]):=by rw[r8.log,gn]
    exact this
   have q3:ah.2.2.log.length≤ε.2.2.room:=q3
   rw[h.rm] at q3
   exact .inr (.inr ⟨rfl,rfl,r,fin r8 r9 he r10 r11 (by omega) (by omega),r7,mh⟩)
 ·exact .inl ⟨k1,k2,.inl (h.die (by omega) o1 k3 ⟨g,k4.low I.fo⟩)⟩
 ·exact .inl ⟨k1,k2,.inr ⟨r,⟨k3,o1,by omega,k6,g',k5.low I.fo⟩,k8⟩⟩
theorem iE.Zo {n:Nat}(h:iE N M B F rs ε)(hf:∀ {ε:aZ},mT N M B rs ε→(aI ε.2 n).1=0∧mT N M B rs (ε.1,(aI ε.2 n).2)∧Zm rs (ε.1,(aI ε.2 n).2)∧∀m,pgA (ε.1,(aI ε.2 n).2) m=pgA ε m): ((aI ε.2 n).1=9∧Dd N F rs (ε.1,(aI ε.2 n).2)) ∨
  ((aI ε.2 n).1=0∧iE N M B (szB rs) rs (ε.1,(aI ε.2 n).2)∧∀m,pgA (ε.1,(aI ε.2 n).2) m=pgA ε m):=by
 obtain⟨g,hg⟩:=h.fm
 have I:=h.ok
 have o1:fD (ε.1,(aI ε.2 n).2):=⟨⟨I.ok.pl,vF I.ok.lg,oa I.ok.dk⟩,I.pins,I.full⟩
 have hpo:bG (ε.1,(aI ε.2 n).2)=bG ε:=by unfold bG;rw[me]
 rcases hg.fs.Y8 n with⟨k1,k2⟩|⟨k1,k2,k3⟩
 ·refine .inl ⟨by rw[k1],h.die (by omega) o1 (by rw[k1];rfl) ⟨g,?_⟩⟩
  rw[k1];exact k2.low hg.fo
 ·have hRo:mT N M B rs (bz ε):=⟨hg.ei,⟨g,hg.fs.lr,hg.fs.ri,hg.st,hg.gd⟩,h.pt,h.rm,h.sz,h.mb,h.b9⟩
  obtain⟨f1,f2,f3,f4⟩:=hf hRo
  rw[←k3] at f2 f3 f4
  obtain⟨g2,J⟩:=f2.ex
  refine .inr ⟨k1.trans f1,⟨⟨g2,o1,⟨k2,J.ri,J.lr,f2.ei.ec,o1.ok.dk.len⟩,f2.ei,J.st,J.gd,AQ f3.symm⟩,by rw[hpo];exact h.pt,f2.rm,h.sz,h.mb,h.b9⟩,f4⟩
theorem iE.force {r:ct}(h:iE N M B F (rs++[r]) ε): ((aI ε.2 (1+szB rs)).1=9∧Dd N F (rs++[r]) (ε.1,(aI ε.2 (1+szB rs)).2)) ∨
  ((aI ε.2 (1+szB rs)).1=0∧iE N M B (szB (rs++[r])) (rs++[r]) (ε.1,(aI ε.2 (1+szB rs)).2)∧∀m,pgA (ε.1,(aI ε.2 (1+szB rs)).2) m=pgA ε m):=h.Zo fun q=>q.force
theorem Dd.cr (h:Dd N F rs ε): ε.2.2.Cr∧ε.2.2.mark=[]∧ε.2.2.aq.length=N∧szB rs≤16777216:=by
 obtain⟨g,pd,C,d,x,tn,hvx,J,hFx,hN,rR,I,ht⟩:=h.ex
 have iH:=h.ok.ok.dk
 have BR:=kF (ε:=ε)
 have KS:=h.pt
 have abM:ε.2.2.aq.length=N:=by rw[I.aq];exact hN
 refine⟨⟨iH,fun w hq=>by rw[I.wait] at hq;rw[I.aq];exact J.wait w hq,by omega,fun w hq=>by rw[I.dA] at hq;obtain⟨k1,k2,_⟩:=ht w hq;exact⟨by omega,k2⟩,by have:=iO List.length I.lt;rw[J.tail,ej,bO] at this;omega,by rw[I.mark,J.mark];decide⟩,by rw[I.mark,J.mark],abM,?_⟩
 rw[J.log,gn] at rR;exact rR
theorem Dd.wV (h:Dd N F rs ε)(c:List Nat)(hf:1≤f)(I:f≤1024): ∃u j,Nw N 17 f c F rs ε.2.2 u j:=by
 obtain⟨c1,c2,c3,c4⟩:=h.cr
 obtain⟨g,hx⟩:=h.ex
 obtain⟨u,v,r2,hu,hF,DQ,J⟩:=hx.cr h.gd (Zn fun n rec hn=>by
  obtain⟨pd,C,d,x,tn,hvx,_⟩:=hx.ex
  obtain⟨t,_,_,_,e,_⟩:=hvx.bq n rec hn
  omega) h.ok.ok.dk.bh
 exact J.wV hu hF c1 c2 c3 (by omega) (by decide) c hf I
theorem iE.cr (h:iE N M B F rs ε): ε.2.2.Cr:=by
 obtain⟨g,hg⟩:=h.fm
 have hp9:=h.E_
 have BR:=kF (ε:=ε)
 have J:=hg.fs.lr
 have I:=h.ok.ok.dk
 have e1:ε.2.2.dA=none:=J.dA
 have e2:ε.2.2.tail=[]:=J.tail
 have e3:ε.2.2.mark=[]:=J.mark
 exact⟨I,J.wait,by omega,fun w hq=>by grind,by rw[e2];exact I.len,by grind⟩
theorem iE.wV (h:iE N M B F rs ε)(c:List Nat)(hf:1≤f)(F_:f≤1024): ∃u j,Nw N 17 f c F rs ε.2.2 u j:=by
 obtain⟨g,J⟩:=h.fm
 have hRS:RS N 1 0 [] rs gN g (bz ε):=⟨J.fs.lr,J.fs.ri,J.st,J.gd⟩
 obtain⟨u,v,r2,hu,hf0,DQ,I⟩:=hRS.cr (Zn fun n rec hn=>by
  obtain⟨t,_,_,_,e,_⟩:=(mz.1 hRS.ri).bq n rec hn
  omega) J.ei.ok.ok.dk
 have fU:szB rs≤16777216:=by
  have:=J.fs.len
  have e:(cU ε.2).2.log=ε.2.2.log:=rfl
  rw[←e,J.fs.lr.log,gn] at this;exact this
 have nu:=J.fo
 have hf0:ε.2.1.forced=szB u:=hf0
 have abN:yb 1 gN u v [] r2 ε.2.2:=⟨I.split,I.rs,I.log,I.cert,I.len,I.gd,I.kJ,I.dA⟩
 exact abN.wV hu (by omega) h.cr J.fs.lr.mark J.ei.ec.dk.aq (by omega) (by decide) c hf F_
end
theorem mT.clean {M:Nat}(h:mT N M B rs ε): mT N M B rs (eS ε).2∧RS N 1 0 [] rs gN (fun _=>none) (eS ε).2:=by
 obtain⟨g,hg⟩:=h.ex
 obtain⟨w1,w2,w3⟩:=h.ei.clean
 have hr:=hg.clean h.ei
 have I:=h.ei
 obtain⟨v1,v2,v3⟩:=I.writeAll
 have hk:=(wO (l:=aE ε.1.aG) I.el I.ok).2.2
 have e:eS ε=((dJ (writeAllF (aE ε.1.aG) ε).2.1 (writeAllF (aE ε.1.aG) ε).2.2.2).1,((dJ (writeAllF (aE ε.1.aG) ε).2.1 (writeAllF (aE ε.1.aG) ε).2.2.2).2.1,((writeAllF (aE ε.1.aG) ε).2.2.1,(dJ (writeAllF (aE ε.1.aG) ε).2.1 (writeAllF (aE ε.1.aG) ε).2.2.2).2.2))):=by
  grind[eS]
 have hp:bG (eS ε).2≤bG ε:=by
  refine bT ?_ hk
  rw[e]
  have hs:(writeAllF (aE ε.1.aG) ε).2.2.2.dO=(0,(writeAllF (aE ε.1.aG) ε).2.2.2.sync):=by
   have h1:=v2.ec.dk.alive
   have h2:=v2.ec.dk.aS
   grind[Dk.dO,iT]
  rw[dJ,hs,ak (by simp)]
  show([]:List Wr).length+fR (writeAllF (aE ε.1.aG) ε).2.1.ai≤(writeAllF (aE ε.1.aG) ε).2.2.2.waiting.length+fR (writeAllF (aE ε.1.aG) ε).2.1.ai
  rw[cI];omega
 have J:(eS ε).2.2.2.room=M:=by
  rw[e]
  exact Kw.trans ((sx M).all (l:=aE ε.1.aG) h.rm)
 exact⟨⟨w2,⟨_,hr⟩,bT hp h.pt,J,h.sz,h.mb,h.b9⟩,hr⟩
theorem QJ {r0:ct}(h:RS N 1 0 [] [r0] gN (fun _=>none) ε)(gj:EI N B ε)(hN:1≤N)(hg:bW (pgA ε 0)=true): ε.2.1.forced=szB [r0]:=by
 have hv:=mz.1 h.ri
 obtain⟨u,v,hu,hf⟩:=hv.forced
 cases u with
 |cons x u =>
  simp_all
 |nil =>
  have I:BW ε.2.2 0:=⟨by decide,by rw[gj.ec.dk.aq];omega⟩
  have a1:=hv.kJ 0 (imgOf ε.2.2 0) [] [r0] I rfl (by omega) (fun rec q=>(by cases q)) (.inl rfl)
  have a2:=hv.kJ 0 (imgOf ε.2.2 0) [r0] [] I rfl (by rw[hf];exact fX _) (fun rec q=>(by cases q)) (.inl rfl)
  have a3:=((h.st 0 (by decide) (by omega)).symm.trans a2).trans a1.symm
  have J:bW (List.replicate 512 0)=false:=by decide +kernel
  have hq:=a3.good
  rw[hg] at hq
  have:bW (eu [] gN 0)=false:=J
  rw[←hq] at this
  cases this
theorem mT.zR {M:Nat}(h:mT N M B rs ε)(hf:ε.2.1.forced=szB rs)(hk:k≤65535): iE N M B (szB rs) rs (ε.1,(ε.2.1,ε.2.2.zR (k:Int))):=by
 obtain⟨g,hg⟩:=h.ex
 have J:=h.ei.bz
 have I:=hg.bz
 have d:=h.ei.ok.ok.dk
 have ho:fD (ε.1,(ε.2.1,ε.2.2.zR (k:Int))):=⟨⟨h.ei.ok.ok.pl,h.ei.ok.ok.lg,⟨by show max (-1:Int) (k:Int)<4294967296;omega,d.len,d.room,d.now,d.aq,d.bh,d.many⟩⟩,h.ei.ok.pins,h.ei.ok.full⟩
 exact⟨⟨g,ho,⟨h.ei.ec.dk.alive,I.ri,I.lr,J.ec,d.len⟩,J,I.st,I.gd,AQ hf.symm⟩,h.pt,h.rm,h.sz,h.mb,h.b9⟩
theorem Sat.G2 {v:V}(s:Sat h S)(I:getA S j=some (ji v (eL U)))(J:U.length=n)(hu:P.underlying t=some (.slice te)): lenV P h t v=some (.int .i64 (n:Int)):=by
 have:=s.Jp (P:=P) I hu
 rwa [g_,J] at this
structure Ar (R:List Nat)(Rt:List V): Prop where
 len:Rt.length=16
 st:Rt.all storable=true
 val:∀i,i<16→Rt[i]?=some (.int .i64 (cO R (4*i) 4:Nat))
def sP : List V:=List.replicate 16 (.int .i64 0)
theorem Ar.zero : Ar (List.replicate 64 0) sP:=by
 refine⟨by decide,by decide,?_⟩
 have:∀i,i<16→cO (List.replicate 64 0) (4*i) 4=0:=by decide +kernel
 grind[sP]
def vM (R:List Nat)(i p:Nat): List Nat:=bp R (4*i) (le 4 p)
theorem Jq {p:Nat}(I:R.length=64)(hi:i<16): (vM R i p).length=64:=by
 rw[vM,cJ (by rw[cR];omega),I]
theorem WD {p:Nat}(I:R.length=64)(hi:i<16)(J:p<4294967296): cO (vM R i p) (4*j) 4=if j=i then p else cO R (4*j) 4:=by
 by_cases h:j=i
 ·subst h;rw[aJ rfl];exact wR (by omega) (by omega)
 ·rw[ak h];exact Bp (by rw[cR];omega) (by rw[cR];omega)
theorem fW.roots {P:Int→List Nat}(h:fW N R M P){I:List Nat}(J:P' 1=P 1)(h0:∃ex,dW (P' 0) 201 N ex [fy,I])(hl:I.length=64): fW N I M P' :=
 ⟨h0,hl,by rw[J];exact h.marks,h.ml,h.n1,h.n2,h.own,h.hi⟩
theorem GI (I:n<18446744073709551616): convV Tryz.prog h 3 43 (.int .i64 (n:Int))=some (.int .u64 (n:Int),h):=by
 simp only[convV,bF,cM,wrap_u64 I]
section
variable {told:dc} {p:Nat} {v:V} {sm:aZ→aZ→Prop}
theorem Zp (J:Mo told N lv dd sm)(I:lv ε)(hw:NW N now){n:Int}(h0:0≤n)(h1:n<N)(s:Sat h (GA g a p q r data aB now ε::S)):
  Call ⟨Tryz.prog,told⟩ 76 [.ptr g 0,.int .i64 n] h fun v h'=>(∃ah,v=.bf [.bC,.int .i64 9]∧dd ah∧Sat h' (GA g a p q r data aB now ah::S))∨∃w ah,v=.bf [w,.int .i64 0]∧lv ah∧sm ε ah∧Sat h' (aV w (pgG now ε n)::GA g a p q r data aB now ah::S):=by
 obtain⟨ty,u,f,e,hm,hr⟩:=(J.gr (g:=g) (a:=a) (p:=p) (q:=q) (r:=r) (data:=data) (aB:=aB) hw).iface
 injection e with e1 e2
 subst e1
 subst e2
 rw[Bj] at hm
 obtain rfl:=cx hm
 exact hr I h0 h1 s
theorem QK (hT:W told)(hM:Mo told N lv dd sm)(gj:lv ε)(hw:NW N now)(hp:fW N R M (pgG now ε)){i z:Int}(s:Sat h (GA g a p q r data aB now ε::S)):
  Call ⟨Tryz.prog,told⟩ 78 [.ptr g 0,.int .i64 i,.int .i64 z] h fun v h'=>(v=.int .i64 9∧Qw N g a p q r data aB dd S h')∨∃ah bR,lv ah∧sm ε ah∧NW N bR∧bR.length≤now.length+1∧Sat h' (GA g a p q r data aB bR ah::S) ∧
   ((¬(0≤i∧i<16∧0≤z∧z<N)∧v=.int .i64 1∧bR=now)∨(0≤i∧i<16∧0≤z∧z<N∧v=.int .i64 0∧fW N (vM R i.toNat z.toNat) M (pgG bR ah)∧∀m,m≠0→pgG bR ah m=pgG now ε m)):=by
 obtain⟨ex,oI⟩:=hp.head
 have oz:=hp.n1
 have qd:=hp.n2
 have gV:=hp.rl
 refine Call.of_wp (hT.free _ rfl) Tryz.func78 rfl rfl (zK 7 rfl (zo rfl (rL rfl (mki_of mo rfl)) (zc rfl (Ap hT (hM.gr hw) gj (by omega) oI hp.rl s) ?_)))
 rintro v h (⟨I,rfl,s,hd⟩|⟨u,I,rfl,jh,fF,s⟩)
 ·skip
  refine zk 9 rfl (WP.block (zK 3 rfl (zB rfl aD (by decide) ?_)))
  exact zk 8 rfl (WP.ret ⟨aa,_,rfl,.inl ⟨rfl,I,now,hw,s,hd⟩⟩)
 have mh:pgG now I=pgG now ε:=hM.pgG fF
 have bad:∀ {h':H},¬(0≤i∧i<16∧0≤z∧z<N)→Sat h' (aV u R::GA g a p q r data aB now I::S)→∃ah bR,lv ah∧sm ε ah∧NW N bR∧bR.length≤now.length+1∧Sat h' (GA g a p q r data aB bR ah::S) ∧
   ((¬(0≤i∧i<16∧0≤z∧z<N)∧V.int .i64 1=.int .i64 1∧bR=now)∨(0≤i∧i<16∧0≤z∧z<N∧V.int .i64 1=.int .i64 0∧fW N (vM R i.toNat z.toNat) M (pgG bR ah)∧∀m,m≠0→pgG bR ah m=pgG now ε m)) :=
  fun yH s=>⟨I,now,jh,fF,hw,kj _,s.drop,.inl ⟨yH,rfl,rfl⟩⟩
 refine zk 9 rfl (WP.block (zK 3 rfl (zC rfl aD (rfl) (zk 6 rfl ?_))))
 by_cases h1:i<0
 ·skip
  refine zB rfl aN (by simp;omega) ?_
  exact zk 20 rfl (WP.ret ⟨aa,_,rfl,.inr (bad (by omega) s)⟩)
 ·skip
  refine zC rfl aN (by simp;omega) ?_
  refine zk 2 rfl ?_
  by_cases h2:16≤i
  ·skip
   refine zB rfl jJ (by simp;omega) ?_
   exact zk 17 rfl (WP.ret ⟨aa,_,rfl,.inr (bad (by omega) s)⟩)
  ·skip
   refine zC rfl jJ (by simp;omega) ?_
   refine zk 3 rfl ?_
   by_cases h3:z<0
   ·skip
    refine zB rfl aN (by simp;omega) ?_
    exact zk 13 rfl (WP.ret ⟨aa,_,rfl,.inr (bad (by omega) s)⟩)
   ·skip
    refine zC rfl aN (by simp;omega) ?_
    refine zk 4 rfl ?_
    by_cases h4:(N:Int)≤z
    ·skip
     refine zB rfl jJ (by simp;omega) ?_
     exact zk 8 rfl (WP.ret ⟨aa,_,rfl,.inr (bad (by omega) s)⟩)
    ·obtain⟨k,rfl⟩:∃k:Nat,i=k:=⟨i.toNat,by omega⟩
     obtain⟨w,rfl⟩:∃w:Nat,z=w:=⟨z.toNat,by omega⟩
     have h4k:4*(k:Int)=((4*k:Nat):Int):=by omega
     have Zq:4*((k:Int)+1)=((4*k+4:Nat):Int):=by omega
     refine zC rfl jJ (by simp;omega) ?_
     refine zk 2 rfl (zv (zj rfl (WP.skip (zw ?_))))
     have sK:=dg (s.buf (k:=0) rfl).view
     have YC:=eU (s.buf (k:=0) rfl).view (a:=4*k) (b:=4*k+4) (by omega) (by omega)
     have zX:=dg YC.2.1
     have s0:=s
     refine WP.drawn [some (0,2),some (0,2),some (0,2),some (0,2),some (0,2),some (0,2),some (0,2),af,af,af,af] rfl (by kernel_rfl) (by kernel_rfl) ?_
     refine zM rfl (zM rfl (zO rfl (az (r:=.int .i64 ((4*k:Nat):Int)) rfl rfl (by rw[←h4k];exact jT (aA (by omega) (by omega)))) ?_))
     refine zM rfl (zO rfl (az (r:=.int .i64 ((k:Int)+1)) rfl rfl (bx (aA (by omega) (by omega)))) ?_)
     refine zO rfl (az (r:=.int .i64 ((4*k+4:Nat):Int)) rfl rfl (by rw[←Zq];exact jT (aA (by omega) (by omega)))) ?_
     refine zO rfl (bV (p:=some (.int .i64 ((4*k:Nat):Int))) (q:=some (.int .i64 ((4*k+4:Nat):Int))) (m:=none) (p':=some (4*k)) (q':=some (4*k+4)) (m':=none) rfl rfl rfl rfl (by rw[ey (by omega),cS]) (by rw[ey (by omega),cS]) rfl (eU (s.buf (k:=0) rfl).view (a:=4*k) (b:=4*k+4) (by omega) (by omega)).1) ?_
     refine zM rfl (ax.op rfl rfl rfl (by simp only[isEff,cM]) (b6 rfl (GI (by omega))) ?_)
     have s:=s.Df
     refine ax.any rfl rfl rfl rfl (OpR.call rfl rfl rfl rfl (Dr (z:=4) (n:=w) hT s (by decide) (by simp))) ?_
     intro v h s
     rw[eB] at s
     have s:=s.ae [1,0]
     have s1:=s
     refine ax.any rfl rfl rfl rfl (OpR.Um (p:=4*k) (q:=4*k+4) rfl s (bu _ _) rfl rfl rfl rfl (by omega) (by omega) (by rw[cR];omega)) ?_
     intro _ h s
     rw[eW (by rw[cR];omega)] at s
     have s:Sat h (aV u (vM R k w)::_):=s
     refine ax.nil ⟨⟨fun _ _=>.inr ⟨rfl,⟨_,bD rfl⟩,sK⟩,fun _ _=>.inr ⟨rfl,⟨_,bD rfl⟩,bn _ rfl⟩,fun _ _=>.inr ⟨rfl,⟨_,az (r:=.int .i64 ((4*k:Nat):Int)) rfl rfl (by rw[←h4k];exact jT (aA (by omega) (by omega)))⟩,bn _ rfl⟩,fun _ _=>.inr ⟨rfl,⟨_,bD rfl⟩,bn _ rfl⟩,fun _ _=>.inr ⟨rfl,⟨_,az (r:=.int .i64 ((k:Int)+1)) rfl rfl (bx (aA (by omega) (by omega)))⟩,bn _ rfl⟩,fun _ _=>.inr ⟨rfl,⟨_,az (r:=.int .i64 ((4*k+4:Nat):Int)) rfl rfl (by rw[←Zq];exact jT (aA (by omega) (by omega)))⟩,bn _ rfl⟩,dw (.inr ⟨rfl,⟨_,bV (p:=some (.int .i64 ((4*k:Nat):Int))) (q:=some (.int .i64 ((4*k+4:Nat):Int))) (m:=none) (p':=some (4*k)) (q':=some (4*k+4)) (m':=none) rfl rfl rfl rfl (by rw[ey (by omega),cS]) (by rw[ey (by omega),cS]) rfl (eU (s0.buf (k:=0) rfl).view (a:=4*k) (b:=4*k+4) (by omega) (by omega)).1⟩,zX⟩) (.inr ⟨rfl,⟨_,bV (p:=some (.int .i64 ((4*k:Nat):Int))) (q:=some (.int .i64 ((4*k+4:Nat):Int))) (m:=none) (p':=some (4*k)) (q':=some (4*k+4)) (m':=none) rfl rfl rfl rfl (by rw[ey (by omega),cS]) (by rw[ey (by omega),cS]) rfl (eU (s1.buf (k:=0) rfl).view (a:=4*k) (b:=4*k+4) (by omega) (by omega)).1⟩,zX⟩),aa,aa,aa,aa,aa⟩,?_⟩
     have s:=s.ae [2,0]
     refine zK 3 rfl (zc rfl (Zp (n:=0) hM jh hw (by decide) (by omega) s) ?_)
     rintro v h (⟨jH,rfl,hd,s⟩|⟨w2,jH,rfl,mF,jC,s⟩)
     ·skip
      refine zk 10 rfl (zB rfl aD (by decide) ?_)
      exact zk 7 rfl (WP.ret ⟨aa,_,rfl,.inl ⟨rfl,jH,now,hw,(s.del 2).del 1,hd⟩⟩)
     have abO:dW (pgG now I 0) 201 N ex [fy,R]:=by rw[mh];exact oI
     have s:=s.ae [0,1]
     refine zk 10 rfl (zC rfl aD (rfl) (zk 8 rfl (zc rfl (E8 (i:=1) (c:=R) hT s (bu _ _) (bu _ _) abO rfl (by rw[Jq gV (by omega),gV])) ?_)))
     rintro v h ⟨w3,b',rfl,J,s⟩
     have J:dW b' 201 N ex [fy,vM R k w]:=J
     refine zk 9 rfl (zC rfl aD (rfl) (zk 7 rfl (zc rfl (hM.gw (i:=0) mF hw (by omega) (s.ae [3,0]) (bu _ _) J) ?_)))
     rintro v h (⟨tu,rfl,s,hd⟩|⟨tu,rfl,vr,mS,uK,s⟩)
     ·skip
      exact zk 2 rfl (WP.ret ⟨aa,_,rfl,.inl ⟨rfl,tu,now,hw,(((s.del 4).del 3).del 2).del 1,hd⟩⟩)
     refine zk 2 rfl (WP.ret ⟨aa,_,rfl,?_⟩)
     have Zr:∀m:Int,m≠0→pgG (cG (0:Nat) b' now) tu m=pgG now ε m:=fun m hm=>by rw[kr,ak (by omega),hM.pgG mS,hM.pgG jC,mh]
     refine .inr ⟨tu,_,vr,hM.tr (hM.tr fF jC) mS,uK,yg,?_,.inr ⟨by omega,by omega,by omega,by omega,rfl,?_,Zr⟩⟩
     ·exact(((s.del 4).del 3).del 2).del 1
     ·rw[cS,cS]
      exact hp.roots (Zr 1 (by decide)) ⟨ex,by rw[kr,aJ (show((0:Nat):Int)=0 from rfl)];exact J⟩ (Jq gV (by omega))
end
theorem WE : ∀(k n:Nat),le (k+1) n=le k n++[n/256^k%256]:=by
 intro k
 induction k with
 |zero=>intro n;simp[le]
 |succ k I =>
  intro n
  rw[le,I,le,jk,Nat.div_div_eq_div_mul,tE,tF 256]
def lyF (l:List Nat)(k:Nat)(m:List Nat): Nat→List Nat
 |0=>l
 |i+1=>(lyF l k m i).set (k+i) (m.getD i 0)
theorem WG {m:List Nat}: ∀i,(lyF l k m i).length=l.length:=by
 intro i
 induction i with
 |zero=>rfl
 |succ i I=>rw[lyF,bY,I]
section
variable {told:dc} {v w:V} {m:List Nat}
noncomputable def rxL : Code:=cD [1,1,0,1,0,0] ((Tryz.f172.body).getD .skip)
theorem Ny (hz:z≤8): ∀(j i:Nat) (v:V) (h:H) (E:List (Nat×V)) (Q:Ex→List (Nat×V)→H→Prop),i+j=z→Sat h (aV v (le i n)::S) →
  Has E [(0,.int .u64 (n:Int)),(1,.int .i64 (z:Int)),(5,v),(6,.int .i64 (i:Int))]→(∀E' h' v,Sat h' (aV v (le z n)::S)→Has E' [(5,v)]→Q (.exit 0) E' h')→WP ⟨Tryz.prog,told⟩ 22 (.loop rxL) E h Q:=by
 intro j
 induction j with
 |zero =>
  intro i v h E Q hi s I J
  refine WP.loop (WP.has I (zK 5 rfl (zC rfl aN (by simp;omega) ?_)))
  refine zk 2 rfl (WP.exit ?_)
  obtain rfl:i=z:=by omega
  exact J _ _ _ s ⟨rfl,aa⟩
 |succ j ih =>
  intro i v h E Q hi s I J
  have hle:=cR i n
  refine WP.loop (WP.has I (zK 5 rfl (zB rfl aN (by simp;omega) ?_)))
  refine zk 4 rfl (WP.block (zK 4 rfl (zo rfl (az (r:=.int .i64 ((8*i:Nat):Int)) rfl rfl (by simp only[binV,ikBeq,aj,intV];rw[show(8:Int)*(i:Int)=((8*i:Nat):Int) by push_cast;rfl,wrap_i64 (by omega)])) ?_)))
  refine zo rfl (b6 rfl (by exact ja bF Tryz.underlying236 (fK (by omega) (by omega)))) ?_
  refine zo rfl (az (r:=.int .u64 ((n/256^i:Nat):Int)) rfl rfl (by simp only[binV];exact Yh (by omega))) ?_
  refine zo rfl (b6 rfl rO) (ay.any rfl rfl rfl (OpR.GW (n:=n/256^i%256) rfl s rfl rfl rfl (by omega)) ?_)
  intro v3 h s
  refine ay.any rfl rfl rfl (OpR.qy rfl (s.ae [1,0]) (bu _ _) rfl rfl rfl rfl (by simp;omega)) ?_
  intro v4 h s
  rw[←WE] at s
  have s:=s.del 1
  dsimp only[aL,bringA] at s
  refine za rfl (zv (zr rfl (zm rfl (zb rfl (by exact bx (aA (by omega) (by omega))) ?_))))
  refine za rfl (zv ?_)
  exact ih (i+1) v4 _ _ Q (by omega) s ⟨rfl,rfl,rfl,rfl,aa⟩ J
theorem Tx (I:W told)(J:z≤8)(s:Sat h S): Call ⟨Tryz.prog,told⟩ 172 [.int .u64 (n:Int),.int .i64 (z:Int)] h fun v h'=>Sat h' (aV v (le z n)::S):=by
 refine Call.of_wp (I.free _ rfl) Tryz.func172 rfl rfl (zK 13 rfl (WP.block ?_))
 refine Ny J z 0 .bC h _ _ (by omega) s.Df ⟨rfl,rfl,rfl,rfl,aa⟩ (fun E h v s hE => ?_)
 exact WP.has hE (zK 5 rfl (WP.ret ⟨aa,_,rfl,s⟩))
noncomputable def ryL : Code:=cD [1,1,0,0] ((Tryz.f128.body).getD .skip)
theorem Nz {l0:List Nat}(hL:l0.length<4294967296)(hm:m.length=z)(hk:k+z≤l0.length): ∀(j i:Nat) (h:H) (E:List (Nat×V)) (Q:Ex→List (Nat×V)→H→Prop),i+j=z→Sat h (aV v (lyF l0 k m i)::aV w m::S) →
  Has E [(0,v),(1,.int .i64 (k:Int)),(2,.int .i64 (z:Int)),(8,w),(9,.int .i64 (i:Int))]→(∀E' h',Sat h' (aV v (lyF l0 k m z)::aV w m::S)→Q (.exit 0) E' h')→WP ⟨Tryz.prog,told⟩ 27 (.loop ryL) E h Q:=by
 intro j
 induction j with
 |zero =>
  intro i h E Q hi s hE hq
  refine WP.loop (WP.has hE (zK 5 rfl (zC rfl aN (by simp;omega) ?_)))
  refine zk 2 rfl (WP.exit ?_)
  obtain rfl:i=z:=by omega
  exact hq _ _ s
 |succ j ih =>
  intro i h E Q hi s hE hq
  have Fg:=WG (l:=l0) (k:=k) (m:=m) i
  have hb:m[i]?=some (m[i]'(by omega)):=bA _
  have I:m.getD i 0=m[i]'(by omega):=by rw[gY,hb];rfl
  generalize (m[i]'(by omega))=b at hb I
  have Fj:b<256:=(s.buf (k:=1) rfl).view.1 b (bI hb)
  obtain⟨id,off,e1,e2⟩:=eo (s.buf (k:=1) rfl).view hb
  obtain⟨iR,J,e3,h2,e4,s2⟩:=lD s (i:=k+i) (b:=b) (by omega) Fj
  refine WP.loop (WP.has hE (zK 5 rfl (zB rfl aN (by simp;omega) ?_)))
  refine zk 4 rfl (WP.block (zK 4 rfl (zb rfl (by exact bx (aA (by omega) (by omega))) ?_)))
  refine zk 2 rfl (zo rfl (cj (r:=.ptr id off) rfl rfl e1) (zl rfl e2 (zo rfl (cj (r:=.ptr iR J) rfl rfl e3) (zS rfl (⟨h2,e4,s2⟩) ?_))))
  rintro h s
  rw[←I] at s
  refine zv (zr rfl (zm rfl (zb rfl (by exact bx (aA (by omega) (by omega))) ?_)))
  refine za rfl (zv ?_)
  exact ih (i+1) _ _ Q (by omega) s ⟨rfl,rfl,rfl,rfl,rfl,aa⟩ hq
theorem Ty (I:W told)(J:z≤8)(hl:l.length<4294967296)(hk:k+z≤l.length)(s:Sat h (aV v l::S)):
  Call ⟨Tryz.prog,told⟩ 128 [v,.int .i64 (k:Int),.int .i64 (z:Int),.int .u64 (n:Int)] h fun r h'=>Sat h' (aV v (lyF l k (le z n) z)::S):=by
 refine Call.of_wp (I.free _ rfl) Tryz.func128 rfl rfl (zK 4 rfl (zc rfl (Tx I J s) ?_))
 intro w h s
 refine zk 6 rfl (WP.block ?_)
 refine Nz (l0:=l) (m:=le z n) hl (cR z n) hk z 0 h _ _ (by omega) (s.ae [1,0]) ⟨rfl,rfl,rfl,rfl,rfl,aa⟩ (fun E h s => ?_)
 exact⟨aa,_,rfl,s.del 1⟩
theorem Tz (hT:W told)(s:Sat h S): Call ⟨Tryz.prog,told⟩ 77 [.int .i64 0] h fun v h'=>Sat h' (aV v (pJ 0)::S):=by
 have I:lyF ((List.replicate 512 0).set 12 0) 16 (le 2 512) 2=pJ 0:=by decide +kernel
 refine Call.of_wp (hT.free _ rfl) Tryz.func77 rfl rfl (zK 6 rfl (ay.any rfl rfl rfl (OpR.gN rfl s rfl rfl rfl rfl (by decide)) ?_))
 intro v h s
 have hl:(List.replicate 512 0:List Nat).length=512:=dx
 obtain⟨iR,J,e3,h2,e4,s2⟩:=lD s (i:=12) (b:=0) (by rw[dx];decide) (by decide)
 refine zk 6 rfl (zo rfl (b6 rfl (by exact ja bF Tryz.underlying5 (y7 (by omega) (by omega)))) ?_)
 refine zo rfl (cj (r:=.ptr iR J) rfl rfl e3) (zS rfl (⟨h2,e4,s2⟩) ?_)
 rintro h s
 refine zk 4 rfl (zc rfl (Ty (k:=16) (z:=2) (n:=512) hT (by decide) (by rw[bY,dx];decide) (by rw[bY,dx];decide) s) ?_)
 intro r h s
 rw[I] at s
 exact zk 6 rfl (WP.ret ⟨aa,_,rfl,s⟩)
end
theorem Jr {k:Int}{m:Nat}(hm:m<65536): ∃r:Nat,r≤m∧∀ {P:Program} {h:H} {t:TypeId} {x y:Operand},binV P h .and t x y (.int .i64 k) (.int .i64 (m:Int))=some (.int .i64 (r:Int)):=by
 refine⟨Nat.land ((k%(2^(IntKind.i64).bits:Int)).toNat) m,Nat.and_le_right,fun {P h t x y} => ?_⟩
 have I:(((m:Nat):Int)%(2^(IntKind.i64).bits:Int)).toNat=m:=by simp only[IntKind.bits];omega
 simp only[binV,ikBeq,aj,intV,bitsV,I]
 have hle:Nat.land ((k%(2^(IntKind.i64).bits:Int)).toNat) m≤m:=Nat.and_le_right
 rw[wrap_i64 (n:=Nat.land ((k%(2^(IntKind.i64).bits:Int)).toNat) m) (by omega)]
def P3 (i:Nat): List Nat:=(List.range (i-2)).map (· + 2)
def uL (n:Nat): List Bool:=((List.replicate n false).set 0 true).set 1 true
theorem WH : (uL n).length=n:=by unfold uL;rw[bY,bY,dx]
theorem WI (hi:i<n): (uL n).getD i false=decide (i<2):=by
 unfold uL
 rw[gY]
 by_cases I:i=1
 ·subst I;rw[iM (by rw[bY,dx];exact hi)];rfl
 ·rw[kL (by omega)]
  by_cases J:i=0
  ·subst J;rw[iM (by rw[dx];exact hi)];rfl
  ·rw[kL (by omega),List.getElem?_replicate,aJ hi,fE (by omega)];rfl
section
variable {told:dc} {p i0:Nat} {v w hv ov ev:V} {oc:List Nat}
theorem QL (hT:W told)(hn:2≤n)(qd:n≤3000)(s:Sat h S): Call ⟨Tryz.prog,told⟩ 28 [.int .i64 (n:Int)] h fun v h'=>∃uv,v=.agg (uv::sP)∧storable uv=true∧Sat h' (ji uv (eL (uL n))::S):=by
 obtain⟨i1,jZ,jv,u_⟩:=F6
 refine Call.of_wp (hT.free _ rfl) Tryz.func28 rfl rfl (zg rfl ?_)
 refine ay.b8 s rfl rfl rfl (bU xy) (fun p2 h s => ?_)
 dsimp only[V.cells,List.length_cons,List.length_nil,Nat.reduceAdd] at s
 refine zk 3 rfl ?_
 refine ay.b8 s rfl rfl rfl (bU xy) (fun p3 h s => ?_)
 dsimp only[V.cells,List.length_cons,List.length_nil,Nat.reduceAdd] at s
 refine zk 4 rfl ?_
 obtain⟨uv,h1,e1,s1⟩:=u7 (P:=Tryz.prog) s gx jZ X6 jv (by omega) rfl (by decide) (by decide) (n:=n) (c:=n) (aU _) (by omega)
 refine ay.any rfl rfl rfl (OpR.of (R:=fun v h'=>v=uv∧h'=h1) (s_ rfl rfl e1) ⟨rfl,rfl⟩) ?_
 rintro uv h ⟨rfl,rfl⟩
 have s:Sat h (.arr 1 uv (repeatL [V.bool false] n)::_):=s1
 rw[V6] at s
 have kU:eL (List.replicate n false)≠[]:=fun e=>by have:=iO List.length e;rw[g_,dx] at this;simp at this;omega
 obtain⟨id,m,cap,M,rest,rfl,_⟩:=s.Bb kU
 have s:=s.ae [1,1,0]
 dsimp only[bringA,getA,aL] at s
 refine zf rfl (eG _ _) ?_
 refine zS rfl (by exact s.eX (k:=0) rfl X_ rfl (by decide) rfl rfl) (fun h s => ?_)
 dsimp only[Nat.reduceAdd,List.set,setA] at s
 refine zk 6 rfl (WP.block (WP.loop (zK 5 rfl (zc rfl (qm hT (n:=n) (by omega) (by omega)) ?_))))
 rintro v h' ⟨rfl,rfl⟩
 refine zB rfl aN (by decide) ?_
 obtain⟨iR,I,h2,e2,e3,s2⟩:=qJ (P:=Tryz.prog) (x:=.bool true) (i:=0) (s.ae [2]) (by rw[g_,dx];omega) rfl rfl gx ox
 rw[tO] at s2
 refine zk 4 rfl (WP.block (zr rfl (zY s 0 eG iJ rfl (zm rfl (zo rfl (cj (r:=.ptr iR I) rfl rfl e2) (zS rfl (⟨h2,e3,s2⟩) ?_))))))
 rintro h s
 have s:=s.ae [1,1,0]
 dsimp only[aL,bringA,getA] at s
 refine zv (zr rfl (zm rfl (zb rfl (by exact bx (aA (by omega) (by omega))) ?_)))
 refine za rfl (zv (WP.loop (zw (zg rfl (zk 2 rfl (zc rfl (qm hT (n:=n) (by omega) (by omega)) ?_))))))
 rintro v h' ⟨rfl,rfl⟩
 refine zB rfl aN (by decide) ?_
 obtain⟨Jl,J,h3,e4,e5,s3⟩:=qJ (P:=Tryz.prog) (x:=.bool true) (i:=1) (s.ae [2]) (by rw[g_,bY,dx];omega) rfl rfl gx ox
 rw[tO] at s3
 refine zv (zi rfl (WP.skip (zw (WP.block (zr rfl (zf rfl (eG _ _) (zl rfl (by exact s.ld (k:=0) rfl iJ rfl) ?_)))))))
 refine zm rfl (zo rfl (cj (r:=.ptr Jl J) rfl rfl e4) (zS rfl (⟨h3,e5,s3⟩) ?_))
 rintro h s
 have s:=s.ae [1,1,0]
 dsimp only[aL,bringA,getA] at s
 refine zk 3 rfl (zb rfl (by exact bx (aA (by omega) (by omega))) ?_)
 refine za rfl (zv (WP.loop (zw (zg rfl (zk 2 rfl (zc rfl (qm hT (n:=n) (by omega) (by omega)) ?_))))))
 rintro v h' ⟨rfl,rfl⟩
 refine zC rfl aN (by decide) ?_
 refine zk 2 rfl (WP.exit (zg rfl (zl rfl (s.bZ (k:=0) rfl gu dz) ?_)))
 refine zS rfl (s.ep (j:=1) rfl dz rfl rfl) (fun h s => ?_)
 refine zv ?_
 refine WP.ret ⟨aa,_,UT rfl (s.bZ (k:=1) rfl gu dz),?_⟩
 have s4:=DX (s.ae [2]) (by rw[g_,bY,bY,dx];omega)
 exact⟨_,rfl,rfl,(s4.del 2).del 1⟩
theorem QM (I:WS told)(s:Sat h S): Call ⟨Tryz.prog,told⟩ 20 [] h fun v h'=>v=.bool true∧Sat h' S:=by
 refine Call.of_wp (I.w.free _ rfl) Tryz.func20 rfl rfl (zK 6 rfl (zc rfl (GH (n:=8) (m:=8192) (f:=8) I (by decide) (by decide) (by decide) (by decide) (by decide) (by decide) s) ?_))
 rintro v h ⟨p,a,q,r,ε,rfl,J,hp,hd,s⟩
 refine zk 6 rfl (zC rfl (vh rY) (rfl) (zk 6 rfl (zc rfl (sy I.w s) ?_)))
 rintro v h ⟨g,rfl,s⟩
 refine zk 6 rfl (zC rfl (vh mo) (rfl) (zk 6 rfl (zc rfl (Tq (lo:=2) I.w (by decide) J (NW.nil 8) hp (by decide) (by rw[DW];rfl) (fun j hj=>by rw[DW,fL hj]) s) ?_)))
 rintro v h ⟨ah,bR,rfl,_,_,_,_,_,_,s⟩
 refine zk 9 rfl (zB rfl dG (by decide) ?_)
 refine zk 2 rfl (zB rfl dG (by decide) ?_)
 exact zk 3 rfl (WP.ret ⟨aa,_,rfl,rfl,s.drop⟩)
end
section
theorem QN (s:Sat h (ji u (eL U)::S))(h1:1≤U.length)(h2:U.length≤1048576):
  ∃w h',appendV Tryz.prog h #[50,50] .bC u=some (w,h')∧Sat h' (.arr 1 w (eL U)::ji u (eL U)::S):=by
 obtain⟨i1,jZ,jv,I⟩:=F6
 have hz:=X6
 have va:=g_ U
 have dZ:(eL U).all storable=true:=by
  rw[eL,nQ]
  intro x hx
  obtain⟨b,_,rfl⟩:=List.mem_map.1 hx
  rfl
 obtain⟨id,M,rest,cap,st,rfl,hM,_,hg⟩:=s.Nu (j:=0) rfl
 have J:srcV h 1 (.sl id 0 (eL U).length cap)=some (eL U,(eL U).length):=by
  simp only[srcV,c_]
  rw[zG hg (by rw[bO,hM]) (by omega),gz,m7 rfl]
  rfl
 have hgw:kR (eL U).length i1.bytes=true:=by
  simp only[kR,I,bK,bg]
  omega
 refine⟨_,_,?_,(s.new (.cells ((eL U).length*1) ([]++eL U) false)).gX fun a r BI=>⟨dZ,.inr ⟨h.next,(eL U).length,.rest 1 0,(eL U).length*1,[],rfl,by rw[ej];exact BI,by rw[c_],by rw[c_];rfl,rfl,rfl,rfl,rfl,by omega⟩⟩⟩
 unfold appendV
 simp only[gx,jZ,hz,jv,I,J]
 rw[show(Nat.ble 1 1&&Nat.ble 1 4096&&Nat.beq (V.bool false).cells.length 1)=true from rfl,aj,eD (by omega:(eL U).length≠0),a_]
 rw[I] at hgw
 rw[hgw,aj]
 rfl
end
section
variable {told:dc}
theorem NA (hT:W told)(I:(uv::Rt).all storable=true)(hR:Rt.length=16)(h1:1≤U.length)(hu:U.length≤3000)(s:Sat h (ji uv (eL U)::S)):
  Call ⟨Tryz.prog,told⟩ 75 [.agg (uv::Rt)] h fun v h'=>∃w,v=.agg (w::Rt)∧Sat h' (.arr 1 w (eL U)::ji uv (eL U)::S):=by
 have oC:Rt.all storable=true:=by simp only[gJ,bK] at I;exact I.2
 refine Call.of_wp (hT.free _ rfl) Tryz.func75 rfl rfl (zg rfl (ay.b8 s rfl rfl rfl (fg rfl I) ?_))
 intro p1 h s
 dsimp only[V.cells,List.length_cons] at s
 rw[hR] at s
 have s:Sat h (pt p1 (.cells 17 (uv::Rt) false)::_):=s
 refine ay.b8 s rfl rfl rfl (bU xy) (fun p2 h s => ?_)
 refine zk 8 rfl (zY s 1 eG iJ rfl ?_)
 have s:=s.ae [2,0,0]
 obtain⟨w,h2,e1,s2⟩:=QN s h1 (by omega)
 refine ay.any rfl rfl rfl (OpR.of (R:=fun v h'=>v=w∧h'=h2) (lP rfl rfl e1) ⟨rfl,rfl⟩) ?_
 rintro w h ⟨rfl,rfl⟩
 have s:=s2.ae [3,2,0,0]
 dsimp only[V.cells,List.length_cons,List.length_nil,Nat.reduceAdd,aL,bringA,getA] at s
 have J:=s.iY (j:=2) rfl
 refine zf rfl (eG _ _) (zS rfl (s.eX (k:=0) rfl X_ (by rw[aX,hR]) (by decide) J.1 J.2.1) ?_)
 rintro h s
 have s:Sat h (pt p1 (.cells 17 (w::Rt) false)::_):=s
 have hws:(w::Rt).all storable=true:=by rw[gJ,J.2.1,oC];rfl
 refine zk 3 rfl (zl rfl (s.bZ (k:=0) rfl gu dz) (zS rfl (s.ep (j:=1) rfl dz (by rw[aX,hR]) hws) ?_))
 rintro h s
 refine zv ?_
 refine WP.ret ⟨aa,_,UT rfl (s.bZ (k:=1) rfl gu dz),?_⟩
 have s:=s.drop
 have s:=s.drop
 exact⟨w,rfl,s⟩
end
theorem TA {f:Nat→Bool}: ∀ {N:Nat},¬(∀j,j<N→f j=true)→∃lo,lo<N∧f lo=false∧∀j,j<lo→f j=true:=by
 intro N
 induction N with
 |zero=>intro h;exact absurd (fun j I=>absurd I (AJ _)) h
 |succ N ih =>
  intro h
  by_cases J:∀j,j<N→f j=true
  ·refine⟨N,vW _,?_,J⟩
   cases hq:f N with
   |false=>rfl
   |true=>exact absurd (fun j I=>by rcases Nat.lt_succ_iff_lt_or_eq.1 I with q|rfl;exact J j q;exact hq) h
  ·obtain⟨lo,h3,h4,h5⟩:=ih J
   exact⟨lo,by omega,h4,h5⟩
structure qn (N:Nat)(R M:List Nat)(P:Int→List Nat)(Rt:List V)(U:List Bool): Prop where
 nO:fW N R M P
 rt:Ar R Rt
 ul:U.length=N
 us:∀i,i<N→U.getD i false=bt M i
theorem G3 {b t:Nat}{p v w:V}(I:look E a=some p)(J:loadV P h t p=some v)(h2:look E b=some w): resLE P E h [.cell a t,.tmp b]=some (.bf [v,w]):=by
 simp only[resLE,mapO,resE,I,J,h2]
theorem WJ (h:Ar R Rt): V.beqL Rt Rt=true:=by
 have key:∀(l:List V),(∀v∈l,∃n:Int,v=.int .i64 n)→V.beqL l l=true:=by
  intro l
  induction l with
  |nil=>intro _;rfl
  |cons v l ih =>
   intro J
   obtain⟨n,rfl⟩:=J v b7
   simp only[V.beqL,V.beq,dD,kY,AS,jl,aj]
   exact ih fun w hw=>J w (b5 _ hw)
 refine key Rt fun v hv => ?_
 obtain⟨i,hi⟩:=vR hv
 have I:=(List.getElem?_eq_some_iff.1 hi).1
 rw[h.len] at I
 rw[h.val i I] at hi
 exact⟨_,(cx hi).symm⟩
theorem Fa (h:Ar R Rt)(hu:u.beq u=true): (V.agg (u::Rt)).beq (V.agg (u::Rt))=true:=by
 simp only[V.beq,V.beqL,hu,WJ h,aj]
theorem sA (h:Ar R Rt)(hu:storable u=true): (u::Rt).all storable=true:=by
 rw[gJ,hu,h.st];rfl
theorem QO {x y:Operand}: binV P h .eql t x y (.str l) (.str l)=some (.bool true):=Mu.trans (by rw[fL rfl])
theorem ik : (pJ k).length=512:=by
 unfold pJ
 rw[cJ (by rw[cR,bY,dx];decide),bY,dx]
section
variable {told:dc} {p:Nat} {v w:V} {sm:aZ→aZ→Prop}
def As (N:Nat)(lv dd:aZ→Prop)(sm:aZ→aZ→Prop)(ε:aZ)(now:List (Int×List Nat))(uv:V)(Rt:List V)(U:List Bool)(ah:aZ)(bR:List (Int×List Nat))(bl:Bool): Prop :=
 (∃R M,lv ah∧sm ε ah∧bR.length≤now.length+2∧qn N R M (pgG bR ah) Rt U∧bl=true)∨(dd ah∧Rt.length=16∧Rt.all storable=true∧U.length=N)
def Zs (N:Nat)(lv dd:aZ→Prop)(sm:aZ→aZ→Prop)(g a p q r aB p4 p5 p6:Nat)(data:List Nat)(ds:List V)(S:List aO)(ε:aZ)(now:List (Int×List Nat))(Q:Ex→List (Nat×V)→H→Prop): Prop :=
 ∀(I:V) (J:List V) (U':List Bool) (ah:aZ) (bR:List (Int×List Nat)) (bl:Bool) (E':List (Nat×V)) (h':H),NW N bR→As N lv dd sm ε now I J U' ah bR bl→look E' 6=some (.ptr p6 0)→look E' 7=some (.bool bl) →
  Sat h' (pt p4 (.cells 17 (I::J) false)::pt p5 (.cells 3 ds false)::pt p6 (.cells 17 (I::J) false)::.arr 1 I (eL U')::GA g a p q r data aB bR ah::S)→Q .ret E' h'
noncomputable def stL : Code:=cD [1,1,0,1,0,1,0,1,0,1,0,0] ((Tryz.f32.body).getD .skip)
theorem Bv (hk:k≤U.length)(hU:U.length≤3000)(I:∀i,i<k→U.getD i false=true)(s:Sat h (pt p4 (.cells 17 (uv::Rt) false)::pt p5 (.cells 3 ds false)::pt p6 (.cells 17 Lt false)::.arr 1 uv (eL U)::S)):
  ∀(d j:Nat) (E:List (Nat×V)),j+d=k→Has E [(0,.ptr g 0),(4,.ptr p4 0),(5,.ptr p5 0),(6,.ptr p6 0),(8,x),(9,y),(10,.int .i64 (j:Int))] →
  (∀E',Has E' [(0,.ptr g 0),(4,.ptr p4 0),(5,.ptr p5 0),(6,.ptr p6 0),(8,x),(9,y),(10,.int .i64 (k:Int))]→WP ⟨Tryz.prog,told⟩ 158 (.loop stL) E' h Q)→WP ⟨Tryz.prog,told⟩ 158 (.loop stL) E h Q:=by
 intro d
 induction d with
 |zero =>
  intro j E hj J hq
  obtain rfl:j=k:=by omega
  exact hq E J
 |succ d ih =>
  intro j E hj J hq
  have hlen:=s.ew (P:=Tryz.prog) (n:=U.length) (j:=3) rfl (by rw[g_,c_]) (by decide) gx
  obtain⟨id,off,e1,e2⟩:=iz (P:=Tryz.prog) s (k:=3) (i:=j) rfl (wU (U:=U) (i:=j) (by omega)) gx ox
  rw[I j (by omega)] at e2
  refine WP.loop (WP.has J (zK 4 rfl (zY s 0 eG iJ rfl (zo rfl (aP rfl rfl rfl hlen) (zB rfl aN (by simp;omega) ?_)))))
  refine zv (zi rfl (WP.skip (zw (WP.block (zg rfl (zf rfl (eG _ _) (zl rfl (s.ld (k:=0) rfl iJ rfl) (zm rfl (zo rfl (cj (r:=.ptr id off) rfl rfl e1) (zl rfl (e2 _ jK) (zo rfl (dQ rfl rfl) (zv (zj rfl (WP.skip (zr rfl (zm rfl (zb rfl (by exact bx (aA (by omega) (by omega))) ?_)))))))))))))))))
  refine za rfl (zv ?_)
  exact ih (j+1) _ (by omega) ⟨rfl,rfl,rfl,rfl,rfl,rfl,rfl,aa⟩ hq
noncomputable def spA : Code:=cD [1,1,0,1,0,1,0] ((Tryz.f32.body).getD .skip)
theorem UU (hT:W told)(hM:Mo told N lv dd sm)(gj:lv ε)(hw:NW N now)(hm:qn N R M (pgG now ε) Rt U)
 (s:Sat h (pt p4 (.cells 17 (uv::Rt) false)::pt p5 (.cells 3 ds false)::pt p6 (.cells 17 Lt false)::.arr 1 uv (eL U)::GA g a p q r data aB now ε::S))(hE:Has E [(0,.ptr g 0),(4,.ptr p4 0),(5,.ptr p5 0),(6,.ptr p6 0)])(hq:Zs N lv dd sm g a p q r aB p4 p5 p6 data ds S ε now Q):
  WP ⟨Tryz.prog,told⟩ 158 spA E h Q:=by
 have oz:=hm.nO.n1
 have qd:=hm.nO.n2
 have mR:=hm.ul
 have gV:=hm.rt.len
 have vp:=s.iY (j:=3) rfl
 have dZ:=sA hm.rt vp.2.1
 refine WP.has hE (zK 3 rfl ?_)
 by_cases J:∀j,j<N→bt M j=true
 ·skip
  refine zc rfl (Tr hT hM gj hw hm.nO J (s.ae [4])) ?_
  rintro v h (⟨rfl,nr,I,jA,s,hd⟩|⟨nr,rfl,jh,fF,s⟩)
  ·have s:=s.ae [1,1,1,1,0]
   have hlen:=s.ew (P:=Tryz.prog) (n:=U.length) (j:=3) rfl (by rw[g_,c_]) (by decide) gx
   refine zk 11 rfl (WP.block ?_)
   refine Bv (k:=N) (by omega) (by omega) (fun i hi=>by rw[hm.us i hi];exact J i hi) s N 0 _ (by omega) ⟨rfl,rfl,rfl,rfl,rfl,rfl,rfl,aa⟩ (fun E' hE => ?_)
   refine WP.loop (WP.has hE (zK 4 rfl (zY s 0 eG iJ rfl (zo rfl (aP rfl rfl rfl hlen) (zC rfl aN (by simp;omega) ?_)))))
   refine zk 2 rfl (WP.exit (zg rfl (zl rfl (s.bZ (k:=0) rfl gu dz) (zm rfl (zC rfl dG (by decide) ?_)))))
   refine zk 4 rfl (zS rfl (s.ep (j:=2) rfl dz (by rw[aX,gV]) dZ) ?_)
   rintro h s
   exact zk 2 rfl (WP.ret (hq uv Rt U nr I false _ _ jA (.inr ⟨hd,gV,hm.rt.st,mR⟩) rfl rfl s))
  have s:=s.ae [1,1,1,1,0]
  have hlen:=s.ew (P:=Tryz.prog) (n:=U.length) (j:=3) rfl (by rw[g_,c_]) (by decide) gx
  refine zk 11 rfl (WP.block ?_)
  refine Bv (k:=N) (by omega) (by omega) (fun i hi=>by rw[hm.us i hi];exact J i hi) s N 0 _ (by omega) ⟨rfl,rfl,rfl,rfl,rfl,rfl,rfl,aa⟩ (fun E' hE => ?_)
  refine WP.loop (WP.has hE (zK 4 rfl (zY s 0 eG iJ rfl (zo rfl (aP rfl rfl rfl hlen) (zC rfl aN (by simp;omega) ?_)))))
  refine zk 2 rfl (WP.exit (zg rfl (zl rfl (s.bZ (k:=0) rfl gu dz) (zm rfl (zB rfl dG (by decide) ?_)))))
  refine zk 2 rfl (zB rfl dG (by decide) ?_)
  refine zq rfl (zS rfl (s.ep (j:=2) rfl dz (by rw[aX,gV]) dZ) ?_)
  rintro h s
  exact zk 2 rfl (WP.ret (hq uv Rt U nr now true _ _ hw (.inl ⟨R,M,jh,fF,by omega,⟨by rw[hM.pgG fF];exact hm.nO,hm.rt,hm.ul,hm.us⟩,rfl⟩) rfl rfl s))
 ·obtain⟨lo,qI,h0,h1⟩:=TA J
  refine zc rfl (LG (lo:=lo) hT hM gj hw hm.nO qI h0 h1 (s.ae [4])) ?_
  rintro v h (⟨rfl,nr,I,jA,s,hd⟩|⟨nr,I,rfl,jh,fF,jA,mc,oA,Ij,_,tY,s⟩)
  ·skip
   have s:=s.ae [1,1,1,1,0]
   have hlen:=s.ew (P:=Tryz.prog) (n:=U.length) (j:=3) rfl (by rw[g_,c_]) (by decide) gx
   obtain⟨id,off,e1,e2⟩:=iz (P:=Tryz.prog) s (k:=3) (i:=lo) rfl (wU (U:=U) (i:=lo) (by omega)) gx ox
   rw[hm.us lo qI,h0] at e2
   obtain⟨iR,Js,h2,e3,e4,s2⟩:=qJ (P:=Tryz.prog) (x:=.bool true) (i:=lo) (s.ae [3]) (by rw[g_];omega) rfl rfl gx ox
   rw[tO] at s2
   refine zk 11 rfl (WP.block ?_)
   refine Bv (k:=lo) (by omega) (by omega) (fun i hi=>by rw[hm.us i (by omega)];exact h1 i hi) s lo 0 _ (by omega) ⟨rfl,rfl,rfl,rfl,rfl,rfl,rfl,aa⟩ (fun E' hE => ?_)
   refine WP.loop (WP.has hE (zK 4 rfl (zY s 0 eG iJ rfl (zo rfl (aP rfl rfl rfl hlen) (zB rfl aN (by simp;omega) ?_)))))
   refine zk 4 rfl (WP.block (zg rfl (zY s 0 eG iJ rfl (zm rfl (zo rfl (cj (r:=.ptr id off) rfl rfl e1) (zl rfl (e2 _ jK) (zo rfl (dQ rfl rfl) (zk 4 rfl (zY s 0 eG iJ rfl (zm rfl (zo rfl (cj (r:=.ptr iR Js) rfl rfl e3) (zS rfl (⟨h2,e4,s2⟩) ?_))))))))))))
   rintro h s
   have s:=s.ae [4]
   refine zk 5 rfl (zc rfl (hM.dr hd jA s) ?_)
   rintro v h ⟨w2,e2,jH,rfl,UW,s⟩
   have s:=s.ae [2,2,2,1,0]
   have sI:=Fa hm.rt vp.2.2
   have s0:=s
   refine zk 7 rfl (WP.drawn [some (0,2),af,af,af,af,af,af,af,af,af,af,af,af,some (0,3),some (0,3),some (0,3),none,some (1,2),some (1,2),some (1,2),some (1,2),none,none] rfl (by kernel_rfl) (by kernel_rfl) ?_)
   refine zL rfl (s.bZ (k:=0) rfl gu dz) (zM rfl (ax.kC rfl rfl rfl rfl (az rfl rfl dG) (by decide) ?_))
   refine zM rfl (ax.no (e:=false) rfl rfl rfl rfl (ax.no (e:=false) rfl rfl rfl rfl (ax.no (e:=false) rfl rfl rfl rfl (zO rfl (fb rfl rfl) (zM rfl (ax.no (e:=false) rfl rfl rfl rfl (ax.no (e:=false) rfl rfl rfl rfl (zO rfl (fb rfl rfl) (zM rfl (ax.no (e:=false) rfl rfl rfl rfl (ax.no (e:=false) rfl rfl rfl rfl (ax.no (e:=false) rfl rfl rfl (by simp only[isEff,mP]) ?_))))))))))))
   refine ax.no (e:=true) rfl rfl rfl rfl (ax.no (e:=false) rfl rfl rfl rfl (ax.no (e:=false) rfl rfl rfl (by simp only[isEff,mP]) ?_))
   refine ax.no (e:=false) rfl rfl rfl rfl (zO rfl (fb rfl rfl) (ax.iB rfl rfl rfl (OpR.eu rfl rfl rfl (s.ep (j:=2) rfl dz (by rw[aX,gV]) dZ)) ?_))
   rintro v h ⟨rfl,s⟩
   refine zA rfl ?_
   refine ax.nil ⟨⟨dw (.inr ⟨rfl,⟨_,aW rfl (s0.bZ (k:=0) rfl gu dz)⟩,sI⟩) (.inr ⟨rfl,⟨_,aW rfl (s0.bZ (k:=0) rfl gu dz)⟩,sI⟩),aa,aa,aa,aa,aa,aa,aa,aa,aa,aa,aa,aa,fun _ _=>.inl rfl,fun _ _=>.inl rfl,fun _ _=>.inl rfl,aa,fun _ _=>.inl rfl,fun _ _=>.inl rfl,fun _ _=>.inl rfl,fun _ _=>.inr ⟨rfl,⟨_,fb rfl rfl⟩,bn _ rfl⟩,aa,aa,aa⟩,?_⟩
   exact WP.ret (hq uv Rt (U.set lo true) jH I false _ _ jA (.inr ⟨UW,gV,hm.rt.st,by rw[bY];exact mR⟩) rfl rfl s)
  have s:=s.ae [1,1,1,1,0]
  have hlen:=s.ew (P:=Tryz.prog) (n:=U.length) (j:=3) rfl (by rw[g_,c_]) (by decide) gx
  obtain⟨id,off,e1,e2⟩:=iz (P:=Tryz.prog) s (k:=3) (i:=lo) rfl (wU (U:=U) (i:=lo) (by omega)) gx ox
  rw[hm.us lo qI,h0] at e2
  obtain⟨iR,Js,h2,e3,e4,s2⟩:=qJ (P:=Tryz.prog) (x:=.bool true) (i:=lo) (s.ae [3]) (by rw[g_];omega) rfl rfl gx ox
  rw[tO] at s2
  refine zk 11 rfl (WP.block ?_)
  refine Bv (k:=lo) (by omega) (by omega) (fun i hi=>by rw[hm.us i (by omega)];exact h1 i hi) s lo 0 _ (by omega) ⟨rfl,rfl,rfl,rfl,rfl,rfl,rfl,aa⟩ (fun E' hE => ?_)
  refine WP.loop (WP.has hE (zK 4 rfl (zY s 0 eG iJ rfl (zo rfl (aP rfl rfl rfl hlen) (zB rfl aN (by simp;omega) ?_)))))
  refine zk 4 rfl (WP.block (zg rfl (zY s 0 eG iJ rfl (zm rfl (zo rfl (cj (r:=.ptr id off) rfl rfl e1) (zl rfl (e2 _ jK) (zo rfl (dQ rfl rfl) (zk 4 rfl (zY s 0 eG iJ rfl (zm rfl (zo rfl (cj (r:=.ptr iR Js) rfl rfl e3) (zS rfl (⟨h2,e4,s2⟩) ?_))))))))))))
  rintro h s
  have s:=s.ae [4]
  refine zk 5 rfl (zc rfl (Zp (n:=(lo:Int)) hM jh jA (by omega) (by omega) s) ?_)
  rintro v h (⟨jH,rfl,hd,s⟩|⟨w2,jH,rfl,mF,jC,s⟩)
  ·have s:=s.ae [2,2,2,1,0]
   have sI:=Fa hm.rt vp.2.2
   have s0:=s
   refine zk 7 rfl (WP.drawn [some (0,2),af,af,af,af,af,af,af,af,af,af,af,af,some (0,3),some (0,3),some (0,3),none,some (1,2),some (1,2),some (1,2),some (1,2),none,none] rfl (by kernel_rfl) (by kernel_rfl) ?_)
   refine zL rfl (s.bZ (k:=0) rfl gu dz) (zM rfl (ax.pU rfl rfl rfl rfl (az rfl rfl dG) (by decide) ?_))
   refine zM rfl (zM rfl (zM rfl (ax.pU rfl rfl rfl rfl (az rfl rfl dG) (by simp) ?_)))
   refine zO rfl (fY rfl rfl) (zM rfl (zM rfl (ax.kC rfl rfl rfl rfl (az rfl rfl dG) (by decide) ?_)))
   refine zO rfl (fY rfl rfl) (zM rfl (ax.no (e:=false) rfl rfl rfl rfl (ax.no (e:=false) rfl rfl rfl rfl (ax.no (e:=false) rfl rfl rfl (by simp only[isEff,mP]) ?_))))
   refine ax.no (e:=true) rfl rfl rfl rfl (ax.no (e:=false) rfl rfl rfl rfl (ax.no (e:=false) rfl rfl rfl (by simp only[isEff,mP]) ?_))
   refine ax.no (e:=false) rfl rfl rfl rfl (zO rfl (fb rfl rfl) (ax.iB rfl rfl rfl (OpR.eu rfl rfl rfl (s.ep (j:=2) rfl dz (by rw[aX,gV]) dZ)) ?_))
   rintro v h ⟨rfl,s⟩
   refine zA rfl ?_
   refine ax.nil ⟨⟨dw (.inr ⟨rfl,⟨_,aW rfl (s0.bZ (k:=0) rfl gu dz)⟩,sI⟩) (.inr ⟨rfl,⟨_,aW rfl (s0.bZ (k:=0) rfl gu dz)⟩,sI⟩),aa,aa,aa,aa,aa,aa,aa,aa,aa,aa,aa,aa,fun _ _=>.inl rfl,fun _ _=>.inl rfl,fun _ _=>.inl rfl,aa,fun _ _=>.inl rfl,fun _ _=>.inl rfl,fun _ _=>.inl rfl,fun _ _=>.inr ⟨rfl,⟨_,fb rfl rfl⟩,bn _ rfl⟩,aa,aa,aa⟩,?_⟩
   exact WP.ret (hq uv Rt (U.set lo true) jH I false _ _ jA (.inr ⟨hd,gV,hm.rt.st,by rw[bY];exact mR⟩) rfl rfl s)
  rw[tY] at s
  have s:=s.ae [3,3,3,2,1,0]
  have sI:=Fa hm.rt vp.2.2
  have UX:=(s.buf (k:=5) rfl).view
  have H6:=dg UX
  have j_:=cf UX (a:=12) (by rw[ik];decide)
  have TB:=dg j_.2.1
  have s0:=s
  refine zk 7 rfl (WP.drawn [some (0,2),af,af,af,af,af,af,af,af,af,af,af,af,some (0,3),some (0,3),some (0,3),none,some (1,2),some (1,2),some (1,2),some (1,2),none,none] rfl (by kernel_rfl) (by kernel_rfl) ?_)
  refine zL rfl (s.bZ (k:=0) rfl gu dz) (zM rfl (ax.pU rfl rfl rfl rfl (az rfl rfl dG) (by decide) ?_))
  refine zM rfl (zM rfl (zM rfl (ax.pU rfl rfl rfl rfl (az rfl rfl dG) (by simp) ?_)))
  refine zO rfl (fY rfl rfl) (zM rfl (zM rfl (ax.pU rfl rfl rfl rfl (az rfl rfl dG) (by decide) ?_)))
  refine zO rfl (fY rfl rfl) (zM rfl (zM rfl (zO rfl (bV (p:=some (.int .i64 12)) (q:=none) (m:=none) (p':=some 12) (q':=none) (m':=none) rfl rfl rfl rfl rfl rfl rfl (cf (s.buf (k:=5) rfl).view (a:=12) (by rw[ik];decide)).1) ?_)))
  refine ax.op rfl rfl rfl (by simp only[isEff,mP]) (b6 rfl (DG (cf (s.buf (k:=5) rfl).view (a:=12) (by rw[ik];decide)).2.1)) ?_
  refine ax.any rfl rfl rfl rfl (OpR.call rfl rfl rfl rfl (Tz hT s)) ?_
  intro v3 h s
  have s:=s.ae [1,1,1,1,1,1,0]
  dsimp only[aL,bringA,getA] at s
  have s1:=s
  have hvn:=(s.buf (k:=6) rfl).view
  have B4:=YF ((pJ 0).drop 12)
  have hnb:=dg (cf hvn (a:=12) (by rw[ik];decide)).2.1
  refine zO rfl (bV (p:=some (.int .i64 12)) (q:=none) (m:=none) (p':=some 12) (q':=none) (m':=none) rfl rfl rfl rfl rfl rfl rfl (cf (s.buf (k:=6) rfl).view (a:=12) (by rw[ik];decide)).1) ?_
  refine ax.op rfl rfl rfl (by simp only[isEff,mP]) (b6 rfl (DG (cf (s.buf (k:=6) rfl).view (a:=12) (by rw[ik];decide)).2.1)) ?_
  refine zO rfl (az rfl rfl QO) (zO rfl (fY rfl rfl) (ax.iB rfl rfl rfl (OpR.eu rfl rfl rfl (s.ep (j:=2) rfl dz (by rw[aX,gV]) dZ)) ?_))
  rintro v h ⟨rfl,s⟩
  refine zA rfl ?_
  refine ax.nil ⟨⟨dw (.inr ⟨rfl,⟨_,aW rfl (s0.bZ (k:=0) rfl gu dz)⟩,sI⟩) (.inr ⟨rfl,⟨_,aW rfl (s1.bZ (k:=0) rfl gu dz)⟩,sI⟩),aa,aa,aa,aa,aa,aa,aa,aa,aa,aa,aa,aa,fun _ _=>.inr ⟨rfl,⟨_,bD rfl⟩,H6⟩,uf (.inr ⟨rfl,⟨_,bV (p:=some (.int .i64 12)) (q:=none) (m:=none) (p':=some 12) (q':=none) (m':=none) rfl rfl rfl rfl rfl rfl rfl (cf (s0.buf (k:=5) rfl).view (a:=12) (by rw[ik];decide)).1⟩,TB⟩) (.inr ⟨rfl,⟨_,bV (p:=some (.int .i64 12)) (q:=none) (m:=none) (p':=some 12) (q':=none) (m':=none) rfl rfl rfl rfl rfl rfl rfl (cf (s1.buf (k:=5) rfl).view (a:=12) (by rw[ik];decide)).1⟩,TB⟩) (.inr ⟨rfl,⟨_,bV (p:=some (.int .i64 12)) (q:=none) (m:=none) (p':=some 12) (q':=none) (m':=none) rfl rfl rfl rfl rfl rfl rfl (cf (s.buf (k:=5) rfl).view (a:=12) (by rw[ik];decide)).1⟩,TB⟩),uf (.inr ⟨rfl,⟨_,b6 rfl (DG (cf (s0.buf (k:=5) rfl).view (a:=12) (by rw[ik];decide)).2.1)⟩,B4⟩) (.inr ⟨rfl,⟨_,b6 rfl (DG (cf (s1.buf (k:=5) rfl).view (a:=12) (by rw[ik];decide)).2.1)⟩,B4⟩) (.inr ⟨rfl,⟨_,b6 rfl (DG (cf (s.buf (k:=5) rfl).view (a:=12) (by rw[ik];decide)).2.1)⟩,B4⟩),aa,dw (.inr ⟨rfl,⟨_,bV (p:=some (.int .i64 12)) (q:=none) (m:=none) (p':=some 12) (q':=none) (m':=none) rfl rfl rfl rfl rfl rfl rfl (cf (s1.buf (k:=6) rfl).view (a:=12) (by rw[ik];decide)).1⟩,hnb⟩) (.inr ⟨rfl,⟨_,bV (p:=some (.int .i64 12)) (q:=none) (m:=none) (p':=some 12) (q':=none) (m':=none) rfl rfl rfl rfl rfl rfl rfl (cf (s.buf (k:=6) rfl).view (a:=12) (by rw[ik];decide)).1⟩,hnb⟩),dw (.inr ⟨rfl,⟨_,b6 rfl (DG (cf (s1.buf (k:=6) rfl).view (a:=12) (by rw[ik];decide)).2.1)⟩,B4⟩) (.inr ⟨rfl,⟨_,b6 rfl (DG (cf (s.buf (k:=6) rfl).view (a:=12) (by rw[ik];decide)).2.1)⟩,B4⟩),fun _ _=>.inr ⟨rfl,⟨_,az rfl rfl QO⟩,bn _ rfl⟩,fun _ _=>.inr ⟨rfl,⟨_,fY rfl rfl⟩,bn _ rfl⟩,aa,aa,aa⟩,?_⟩
  refine WP.ret ?_
  refine hq uv Rt (U.set lo true) jH I true _ _ jA (.inl ⟨R,BY M lo,mF,hM.tr fF jC,by omega,⟨by rw[hM.pgG jC];exact oA,hm.rt,by rw[bY];exact hm.ul,fun i hi => ?_⟩,rfl⟩) rfl rfl ((s.ae [0,0,0,0,0]).del 6 |>.del 5)
  rw[UP (by have:=hm.nO.ml;omega),gY]
  by_cases yq:i=lo
  ·subst yq;rw[iM (by omega),aJ rfl];rfl
  ·rw[kL (by omega),ak yq,←hm.us i hi,gY]
end
theorem Ar.set {w:Nat}(h:Ar R Rt)(hR:R.length=64)(hk:k<16)(hw:w<4294967296): Ar (vM R k w) (Rt.set k (.int .i64 (w:Int))):=by
 have hl:=h.len
 refine⟨by rw[bY];exact hl,?_,fun i hi => ?_⟩
 ·have:=h.st
  rw[nQ] at this ⊢
  intro x J
  rcases mV J with J|rfl
  ·exact this x J
  ·rfl
 ·rw[WD hR hk hw]
  by_cases I:i=k
  ·subst I;rw[iM (by omega),aJ rfl]
  ·rw[kL (by omega),ak I];exact h.val i hi
section
variable {told:dc} {p:Nat} {v w:V} {sm:aZ→aZ→Prop} {x y z:Int}
noncomputable def spF : Code:=cD [1,1,0,1,0,1,1,1,0] ((Tryz.f32.body).getD .skip)
theorem aaH (hT:W told)(hM:Mo told N lv dd sm)(gj:lv ε)(hw:NW N now)(hm:qn N R M (pgG now ε) Rt U)
 (s:Sat h (pt p4 (.cells 17 (uv::Rt) false)::pt p5 (.cells 3 [.int .i64 z,.int .i64 x,.int .i64 y] false)::pt p6 (.cells 17 Lt false)::.arr 1 uv (eL U)::GA g a p q r data aB now ε::S))(hE:Has E [(0,.ptr g 0),(4,.ptr p4 0),(5,.ptr p5 0),(6,.ptr p6 0)])(hq:Zs N lv dd sm g a p q r aB p4 p5 p6 data [.int .i64 z,.int .i64 x,.int .i64 y] S ε now Q):
  WP ⟨Tryz.prog,told⟩ 158 spF E h Q:=by
 have oz:=hm.nO.n1
 have qd:=hm.nO.n2
 have mR:=hm.ul
 have gV:=hm.rt.len
 have vp:=s.iY (j:=3) rfl
 have dZ:=sA hm.rt vp.2.1
 refine WP.has hE (zK 3 rfl (zY s 1 jc cL rfl (zc rfl (Wv (i:=x) hT hM gj hw hm.nO (s.ae [4])) ?_)))
 intro v h DY
 obtain⟨e,J,I,rfl,jA,s,DY⟩:∃(e:Int) (J:aZ) (I:List (Int×List Nat)),v=.int .i64 e∧NW N I∧Sat h (GA g a p q r data aB I J::pt p4 (.cells 17 (uv::Rt) false)::pt p5 (.cells 3 [.int .i64 z,.int .i64 x,.int .i64 y] false)::pt p6 (.cells 17 Lt false)::.arr 1 uv (eL U)::S) ∧
   ((e=9∧dd J)∨(lv J∧sm ε J∧I.length≤now.length+1∧((¬(2≤x∧x<N∧bt M x.toNat=true)∧e=18∧I=now)∨(2≤x∧x<N∧bt M x.toNat=true∧e=0∧fW N R (DT M x.toNat) (pgG I J))))):=by
  rcases DY with⟨rfl,J,I,jA,s,hd⟩|⟨J,I,jh,fF,jA,mc,s,⟨q1,rfl,q2⟩|⟨q1,q2,q3,rfl,q4,_⟩⟩
  ·exact⟨9,J,I,rfl,jA,s,.inl ⟨rfl,hd⟩⟩
  ·exact⟨18,J,I,rfl,jA,s,.inr ⟨jh,fF,mc,.inl ⟨q1,rfl,q2⟩⟩⟩
  ·exact⟨0,J,I,rfl,jA,s,.inr ⟨jh,fF,mc,.inr ⟨q1,q2,q3,rfl,q4⟩⟩⟩
 have s:=s.ae [1,1,1,1,0]
 have hlen:=s.ew (P:=Tryz.prog) (n:=N) (j:=3) rfl (by rw[g_,c_,mR]) (by decide) gx
 have s0:=s
 -- pages that cannot be taken back
 have no:¬(2≤x∧x<N∧bt M x.toNat=true)→As N lv dd sm ε now uv Rt U J I (decide (e=18)):=fun yH=>by
  rcases DY with⟨rfl,hd⟩|⟨jh,fF,mc,⟨_,rfl,rfl⟩|⟨q1,q2,q3,_⟩⟩
  ·exact .inr ⟨hd,gV,hm.rt.st,mR⟩
  ·exact .inl ⟨R,M,jh,fF,by omega,⟨by rw[hM.pgG fF];exact hm.nO,hm.rt,hm.ul,hm.us⟩,rfl⟩
  ·exact absurd ⟨q1,q2,q3⟩ yH
 refine zk 4 rfl ?_
 by_cases h1:x<2
 ·skip
  refine WP.drawn [some (0,2),some (0,2),af,af,af,af,af,af,af,af,af,af,af,af,af,af,af,af,af,af,af,af,af,af] rfl (by kernel_rfl) (by kernel_rfl) ?_
  refine zF rfl (jc _ _) (zL rfl (s.ld (k:=1) rfl cL rfl) (zF rfl (eG _ _) (zL rfl (s.ld (k:=0) rfl iJ rfl) (zO rfl (aP rfl rfl rfl hlen) (ax.any rfl rfl rfl rfl (OpR.call rfl rfl rfl rfl (qm hT (n:=N) (by omega) (by omega))) ?_)))))
  rintro v h' ⟨rfl,rfl⟩
  refine ax.pU rfl rfl rfl rfl (az rfl rfl aN) (by simp;omega) ?_
  refine zM rfl (ax.no (e:=false) rfl rfl rfl rfl (ax.no (e:=false) rfl rfl rfl rfl (ax.no (e:=false) rfl rfl rfl rfl (ax.no (e:=false) rfl rfl rfl rfl (ax.no (e:=false) rfl rfl rfl rfl (ax.no (e:=false) rfl rfl rfl rfl (zO rfl (fY rfl rfl) (zM rfl (ax.no (e:=false) rfl rfl rfl rfl (ax.no (e:=false) rfl rfl rfl rfl (ax.no (e:=false) rfl rfl rfl rfl (ax.no (e:=false) rfl rfl rfl rfl (ax.no (e:=false) rfl rfl rfl rfl (ax.no (e:=false) rfl rfl rfl rfl (ax.no (e:=false) rfl rfl rfl rfl (zO rfl (fY rfl rfl) ?_))))))))))))))))
  refine ax.nil ⟨⟨fun _ _=>.inr ⟨rfl,⟨_,jS rfl (jc _ _)⟩,bn _ rfl⟩,dw (.inr ⟨rfl,⟨_,aW rfl (s0.ld (k:=1) rfl cL rfl)⟩,bn _ rfl⟩) (.inr ⟨rfl,⟨_,aW rfl (s0.ld (k:=1) rfl cL rfl)⟩,bn _ rfl⟩),aa,aa,aa,aa,aa,aa,aa,aa,aa,aa,aa,aa,aa,aa,aa,aa,aa,aa,aa,aa,aa,aa,aa⟩,?_⟩
  refine zK 3 rfl (zl rfl (s.bZ (k:=0) rfl gu dz) (zm rfl (zb rfl dG (zS rfl (s.ep (j:=2) rfl dz (by rw[aX,gV]) dZ) ?_))))
  rintro h s
  exact zk 2 rfl (WP.ret (hq uv Rt U J I _ _ _ jA (no (by omega)) rfl rfl s))
 ·by_cases h3:(N:Int)≤x
  ·skip
   refine WP.drawn [some (0,2),some (0,2),af,af,af,af,af,af,af,af,af,af,af,af,af,af,af,af,af,af,af,af,af,af] rfl (by kernel_rfl) (by kernel_rfl) ?_
   refine zF rfl (jc _ _) (zL rfl (s.ld (k:=1) rfl cL rfl) (zF rfl (eG _ _) (zL rfl (s.ld (k:=0) rfl iJ rfl) (zO rfl (aP rfl rfl rfl hlen) (ax.any rfl rfl rfl rfl (OpR.call rfl rfl rfl rfl (qm hT (n:=N) (by omega) (by omega))) ?_)))))
   rintro v h' ⟨rfl,rfl⟩
   refine ax.kC rfl rfl rfl rfl (az rfl rfl aN) (by simp;omega) ?_
   refine zM rfl (zF rfl (jc _ _) (zL rfl (s.ld (k:=1) rfl cL rfl) (zF rfl (eG _ _) (zL rfl (s.ld (k:=0) rfl iJ rfl) (zO rfl (aP rfl rfl rfl hlen) (ax.pU rfl rfl rfl rfl (az rfl rfl jJ) (by simp;omega) ?_))))))
   refine zO rfl (fb rfl rfl) (zM rfl (ax.no (e:=false) rfl rfl rfl rfl (ax.no (e:=false) rfl rfl rfl rfl (ax.no (e:=false) rfl rfl rfl rfl (ax.no (e:=false) rfl rfl rfl rfl (ax.no (e:=false) rfl rfl rfl rfl (ax.no (e:=false) rfl rfl rfl rfl (ax.no (e:=false) rfl rfl rfl rfl (zO rfl (fY rfl rfl) ?_)))))))))
   refine ax.nil ⟨⟨fun _ _=>.inr ⟨rfl,⟨_,jS rfl (jc _ _)⟩,bn _ rfl⟩,dw (.inr ⟨rfl,⟨_,aW rfl (s0.ld (k:=1) rfl cL rfl)⟩,bn _ rfl⟩) (.inr ⟨rfl,⟨_,aW rfl (s0.ld (k:=1) rfl cL rfl)⟩,bn _ rfl⟩),aa,aa,aa,aa,aa,aa,aa,aa,aa,aa,aa,aa,aa,aa,aa,aa,aa,aa,aa,aa,aa,aa,aa⟩,?_⟩
   refine zK 3 rfl (zl rfl (s.bZ (k:=0) rfl gu dz) (zm rfl (zb rfl dG (zS rfl (s.ep (j:=2) rfl dz (by rw[aX,gV]) dZ) ?_))))
   rintro h s
   exact zk 2 rfl (WP.ret (hq uv Rt U J I _ _ _ jA (no (by omega)) rfl rfl s))
  ·obtain⟨k,rfl⟩:∃k:Nat,x=k:=⟨x.toNat,by omega⟩
   obtain⟨id,off,e1,e2⟩:=iz (P:=Tryz.prog) s (k:=3) (i:=k) rfl (wU (U:=U) (i:=k) (by omega)) gx ox
   rw[hm.us k (by omega)] at e2
   cases UY:bt M k with
   |false =>
    rw[UY] at e2
    refine WP.drawn [some (0,2),some (0,2),af,af,af,af,af,af,af,af,af,af,af,af,af,af,af,af,af,af,af,af,af,af] rfl (by kernel_rfl) (by kernel_rfl) ?_
    refine zF rfl (jc _ _) (zL rfl (s.ld (k:=1) rfl cL rfl) (zF rfl (eG _ _) (zL rfl (s.ld (k:=0) rfl iJ rfl) (zO rfl (aP rfl rfl rfl hlen) (ax.any rfl rfl rfl rfl (OpR.call rfl rfl rfl rfl (qm hT (n:=N) (by omega) (by omega))) ?_)))))
    rintro v h' ⟨rfl,rfl⟩
    refine ax.kC rfl rfl rfl rfl (az rfl rfl aN) (by simp;omega) ?_
    refine zM rfl (zF rfl (jc _ _) (zL rfl (s.ld (k:=1) rfl cL rfl) (zF rfl (eG _ _) (zL rfl (s.ld (k:=0) rfl iJ rfl) (zO rfl (aP rfl rfl rfl hlen) (ax.kC rfl rfl rfl rfl (az rfl rfl jJ) (by simp;omega) ?_))))))
    refine zO rfl (fb rfl rfl) (zM rfl (zF rfl (eG _ _) (zL rfl (s.ld (k:=0) rfl iJ rfl) (zF rfl (jc _ _) (zL rfl (s.ld (k:=1) rfl cL rfl) (zO rfl (cj (r:=.ptr id off) rfl rfl e1) (zL rfl (e2 _ jK) (zO rfl (dQ rfl rfl) (zO rfl (fb rfl rfl) ?_)))))))))
    refine ax.nil ⟨⟨fun _ _=>.inr ⟨rfl,⟨_,jS rfl (jc _ _)⟩,bn _ rfl⟩,dw (.inr ⟨rfl,⟨_,aW rfl (s0.ld (k:=1) rfl cL rfl)⟩,bn _ rfl⟩) (.inr ⟨rfl,⟨_,aW rfl (s0.ld (k:=1) rfl cL rfl)⟩,bn _ rfl⟩),aa,aa,aa,aa,aa,aa,aa,aa,aa,aa,aa,aa,aa,aa,aa,aa,aa,aa,aa,aa,aa,aa,aa⟩,?_⟩
    refine zK 3 rfl (zl rfl (s.bZ (k:=0) rfl gu dz) (zm rfl (zb rfl dG (zS rfl (s.ep (j:=2) rfl dz (by rw[aX,gV]) dZ) ?_))))
    rintro h s
    exact zk 2 rfl (WP.ret (hq uv Rt U J I _ _ _ jA (no (by rw[cS,UY];rintro⟨_,_,q⟩;cases q)) rfl rfl s))
   |true =>
    rw[UY] at e2
    obtain⟨iR,Js,Hy,e3,e4,s2⟩:=qJ (P:=Tryz.prog) (x:=.bool false) (i:=k) (s.ae [3]) (by rw[g_];omega) rfl rfl gx ox
    rw[tO] at s2
    have yes:As N lv dd sm ε now uv Rt (U.set k false) J I (decide (e=0)):=by
     rcases DY with⟨rfl,hd⟩|⟨jh,fF,mc,⟨q,_⟩|⟨_,_,_,rfl,oA⟩⟩
     ·exact .inr ⟨hd,gV,hm.rt.st,by rw[bY];exact mR⟩
     ·exact absurd ⟨by omega,by omega,by rw[cS];exact UY⟩ q
     ·rw[cS] at oA
      refine .inl ⟨R,DT M k,jh,fF,by omega,⟨oA,hm.rt,by rw[bY];exact hm.ul,fun i hi => ?_⟩,rfl⟩
      rw[UQ (by have:=hm.nO.ml;omega),gY]
      by_cases yq:i=k
      ·subst yq;rw[iM (by omega),aJ rfl];rfl
      ·rw[kL (by omega),ak yq,←hm.us i hi,gY]
    refine WP.drawn [some (0,2),some (0,2),af,af,af,af,af,af,af,af,af,af,af,af,af,af,af,af,af,af,af,af,af,af] rfl (by kernel_rfl) (by kernel_rfl) ?_
    refine zF rfl (jc _ _) (zL rfl (s.ld (k:=1) rfl cL rfl) (zF rfl (eG _ _) (zL rfl (s.ld (k:=0) rfl iJ rfl) (zO rfl (aP rfl rfl rfl hlen) (ax.any rfl rfl rfl rfl (OpR.call rfl rfl rfl rfl (qm hT (n:=N) (by omega) (by omega))) ?_)))))
    rintro v h' ⟨rfl,rfl⟩
    refine ax.kC rfl rfl rfl rfl (az rfl rfl aN) (by simp;omega) ?_
    refine zM rfl (zF rfl (jc _ _) (zL rfl (s.ld (k:=1) rfl cL rfl) (zF rfl (eG _ _) (zL rfl (s.ld (k:=0) rfl iJ rfl) (zO rfl (aP rfl rfl rfl hlen) (ax.kC rfl rfl rfl rfl (az rfl rfl jJ) (by simp;omega) ?_))))))
    refine zO rfl (fb rfl rfl) (zM rfl (zF rfl (eG _ _) (zL rfl (s.ld (k:=0) rfl iJ rfl) (zF rfl (jc _ _) (zL rfl (s.ld (k:=1) rfl cL rfl) (zO rfl (cj (r:=.ptr id off) rfl rfl e1) (zL rfl (e2 _ jK) (zO rfl (dQ rfl rfl) (zO rfl (fb rfl rfl) ?_)))))))))
    refine ax.nil ⟨⟨fun _ _=>.inr ⟨rfl,⟨_,jS rfl (jc _ _)⟩,bn _ rfl⟩,dw (.inr ⟨rfl,⟨_,aW rfl (s0.ld (k:=1) rfl cL rfl)⟩,bn _ rfl⟩) (.inr ⟨rfl,⟨_,aW rfl (s0.ld (k:=1) rfl cL rfl)⟩,bn _ rfl⟩),aa,aa,aa,aa,aa,aa,aa,aa,aa,aa,aa,aa,aa,aa,aa,aa,aa,aa,aa,aa,aa,aa,aa⟩,?_⟩
    refine zK 4 rfl (zY s 0 eG iJ rfl (zY s 1 jc cL rfl (zo rfl (cj (r:=.ptr iR Js) rfl rfl e3) (zS rfl (⟨Hy,e4,s2⟩) ?_))))
    rintro h s
    have s:=s.ae [1,1,1,0,0]
    refine zk 3 rfl (zl rfl (s.bZ (k:=0) rfl gu dz) (zm rfl (zb rfl dG (zS rfl (s.ep (j:=2) rfl dz (by rw[aX,gV]) dZ) ?_))))
    rintro h s
    exact zk 2 rfl (WP.ret (hq uv Rt (U.set k false) J I _ _ _ jA yes rfl rfl s))
end
section
variable {told:dc} {p:Nat} {v w:V} {sm:aZ→aZ→Prop} {x y z:Int}
noncomputable def spR : Code:=cD [1,1,1] ((Tryz.f32.body).getD .skip)
theorem aaI (hT:W told)(hM:Mo told N lv dd sm)(gj:lv ε)(hw:NW N now)(hm:qn N R M (pgG now ε) Rt U)
 (s:Sat h (pt p4 (.cells 17 (uv::Rt) false)::pt p5 (.cells 3 [.int .i64 z,.int .i64 x,.int .i64 y] false)::pt p6 (.cells 17 Lt false)::.arr 1 uv (eL U)::GA g a p q r data aB now ε::S))(hE:Has E [(0,.ptr g 0),(4,.ptr p4 0),(5,.ptr p5 0),(6,.ptr p6 0)])(hq:Zs N lv dd sm g a p q r aB p4 p5 p6 data [.int .i64 z,.int .i64 x,.int .i64 y] S ε now Q):
  WP ⟨Tryz.prog,told⟩ 158 spR E h Q:=by
 have oz:=hm.nO.n1
 have qd:=hm.nO.n2
 have mR:=hm.ul
 have gV:=hm.rt.len
 have vp:=s.iY (j:=3) rfl
 have dZ:=sA hm.rt vp.2.1
 refine WP.has hE (zK 3 rfl (zY s 1 jc cL rfl (zY s 1 C9 cL rfl (zc rfl (QK (i:=x) (z:=y) hT hM gj hw hm.nO (s.ae [4])) ?_))))
 intro v h DY
 obtain⟨e,J,I,rfl,jA,s,DY⟩:∃(e:Int) (J:aZ) (I:List (Int×List Nat)),v=.int .i64 e∧NW N I∧Sat h (GA g a p q r data aB I J::pt p4 (.cells 17 (uv::Rt) false)::pt p5 (.cells 3 [.int .i64 z,.int .i64 x,.int .i64 y] false)::pt p6 (.cells 17 Lt false)::.arr 1 uv (eL U)::S) ∧
   ((e=9∧dd J)∨(lv J∧sm ε J∧I.length≤now.length+1∧((¬(0≤x∧x<16∧0≤y∧y<N)∧e=1∧I=now)∨(0≤x∧x<16∧0≤y∧y<N∧e=0∧fW N (vM R x.toNat y.toNat) M (pgG I J))))):=by
  rcases DY with⟨rfl,J,I,jA,s,hd⟩|⟨J,I,jh,fF,jA,mc,s,⟨q1,rfl,q2⟩|⟨q1,q2,q3,q4,rfl,q5,_⟩⟩
  ·exact⟨9,J,I,rfl,jA,s,.inl ⟨rfl,hd⟩⟩
  ·exact⟨1,J,I,rfl,jA,s,.inr ⟨jh,fF,mc,.inl ⟨q1,rfl,q2⟩⟩⟩
  ·exact⟨0,J,I,rfl,jA,s,.inr ⟨jh,fF,mc,.inr ⟨q1,q2,q3,q4,rfl,q5⟩⟩⟩
 have s:=s.ae [1,1,1,1,0]
 have hlen:=s.ew (P:=Tryz.prog) (n:=N) (j:=3) rfl (by rw[g_,c_,mR]) (by decide) gx
 have no:¬(0≤x∧x<16∧0≤y∧y<N)→As N lv dd sm ε now uv Rt U J I (decide (e=1)):=fun yH=>by
  rcases DY with⟨rfl,hd⟩|⟨jh,fF,mc,⟨_,rfl,rfl⟩|⟨q1,q2,q3,q4,_⟩⟩
  ·exact .inr ⟨hd,gV,hm.rt.st,mR⟩
  ·exact .inl ⟨R,M,jh,fF,by omega,⟨by rw[hM.pgG fF];exact hm.nO,hm.rt,hm.ul,hm.us⟩,rfl⟩
  ·exact absurd ⟨q1,q2,q3,q4⟩ yH
 refine zk 5 rfl (zY s 1 jc cL rfl ?_)
 by_cases h1:x<0
 ·skip
  refine zB rfl aN (by simp;omega) ?_
  refine zk 22 rfl (zl rfl (s.bZ (k:=0) rfl gu dz) (zm rfl (zb rfl dG (zS rfl (s.ep (j:=2) rfl dz (by rw[aX,gV]) dZ) ?_))))
  rintro h s
  exact zk 2 rfl (WP.ret (hq uv Rt U J I _ _ _ jA (no (by omega)) rfl rfl s))
 ·skip
  refine zC rfl aN (by simp;omega) ?_
  refine zm rfl (zY s 1 jc cL rfl ?_)
  by_cases h2:15<x
  ·skip
   refine zB rfl gT (by simp;omega) ?_
   refine zk 18 rfl (zl rfl (s.bZ (k:=0) rfl gu dz) (zm rfl (zb rfl dG (zS rfl (s.ep (j:=2) rfl dz (by rw[aX,gV]) dZ) ?_))))
   rintro h s
   exact zk 2 rfl (WP.ret (hq uv Rt U J I _ _ _ jA (no (by omega)) rfl rfl s))
  ·skip
   refine zC rfl gT (by simp;omega) ?_
   refine zk 2 rfl (zY s 1 C9 cL rfl ?_)
   by_cases h3:y<0
   ·skip
    refine zB rfl aN (by simp;omega) ?_
    refine zk 13 rfl (zl rfl (s.bZ (k:=0) rfl gu dz) (zm rfl (zb rfl dG (zS rfl (s.ep (j:=2) rfl dz (by rw[aX,gV]) dZ) ?_))))
    rintro h s
    exact zk 2 rfl (WP.ret (hq uv Rt U J I _ _ _ jA (no (by omega)) rfl rfl s))
   ·skip
    refine zC rfl aN (by simp;omega) ?_
    refine zk 2 rfl (zY s 1 C9 cL rfl (zY s 0 eG iJ rfl (zo rfl (aP rfl rfl rfl hlen) ?_)))
    by_cases h4:(N:Int)≤y
    ·skip
     refine zB rfl jJ (by simp;omega) ?_
     refine zk 5 rfl (zl rfl (s.bZ (k:=0) rfl gu dz) (zm rfl (zb rfl dG (zS rfl (s.ep (j:=2) rfl dz (by rw[aX,gV]) dZ) ?_))))
     rintro h s
     exact zk 2 rfl (WP.ret (hq uv Rt U J I _ _ _ jA (no (by omega)) rfl rfl s))
    ·obtain⟨k,rfl⟩:∃k:Nat,x=k:=⟨x.toNat,by omega⟩
     obtain⟨n,rfl⟩:∃n:Nat,y=n:=⟨y.toNat,by omega⟩
     have NB:=hm.rt.set (k:=k) (w:=n) hm.nO.rl (by omega) (by omega)
     have S9:=sA NB vp.2.1
     have Zt:=NB.len
     have yes:As N lv dd sm ε now uv (Rt.set k (.int .i64 (n:Int))) U J I (decide (e=0)):=by
      rcases DY with⟨rfl,hd⟩|⟨jh,fF,mc,⟨q,_⟩|⟨_,_,_,_,rfl,oA⟩⟩
      ·exact .inr ⟨hd,Zt,NB.st,mR⟩
      ·exact absurd ⟨by omega,by omega,by omega,by omega⟩ q
      ·rw[cS,cS] at oA
       exact .inl ⟨vM R k n,M,jh,fF,by omega,⟨oA,NB,hm.ul,hm.us⟩,rfl⟩
     refine zC rfl jJ (by simp;omega) ?_
     refine zk 6 rfl (zY s 1 jc cL rfl (zY s 1 C9 cL rfl (zf rfl (OT _ _) (zo rfl (cj (r:=.ptr p4 (0+1+k)) rfl rfl (by rw[Ya,show(decide (0≤(k:Int))&&decide ((k:Int)<((16:Nat):Int)))=true by simp;omega,aj];simp)) ?_))))
     refine zS rfl (s.eX (k:=0) (off:=0+1+k) (v:=.int .i64 (n:Int)) rfl ke (by rw[aX,gV]) (by omega) rfl rfl) ?_
     rintro h s
     have e17:(uv::Rt).set (0+1+k) (.int .i64 (n:Int))=uv::Rt.set k (.int .i64 (n:Int)):=by rw[show 0+1+k=k+1 by omega,List.set_cons_succ]
     rw[e17] at s
     refine zk 3 rfl (zl rfl (s.bZ (k:=0) rfl gu dz) (zm rfl (zb rfl dG (zS rfl (s.ep (j:=2) rfl dz (by rw[aX,Zt]) S9) ?_))))
     rintro h s
     exact zk 2 rfl (WP.ret (hq uv _ U J I _ _ _ jA yes rfl rfl s))
theorem Zu (hT:W told)(hM:Mo told N lv dd sm)(gj:lv ε)(hw:NW N now)(hm:qn N R M (pgG now ε) Rt U)(hu:storable uv=true)(s:Sat h (ji uv (eL U)::GA g a p q r data aB now ε::S)):
  Call ⟨Tryz.prog,told⟩ 32 [.ptr g 0,.agg (uv::Rt),.agg [.int .i64 z,.int .i64 x,.int .i64 y]] h fun v h'=>∃I J U' ah bR bl,v=.bf [.agg (I::J),.bool bl]∧NW N bR∧As N lv dd sm ε now I J U' ah bR bl∧storable I=true∧I.beq I=true ∧
   Sat h' (ji I (eL U')::GA g a p q r data aB bR ah::S):=by
 have oz:=hm.nO.n1
 have qd:=hm.nO.n2
 have mR:=hm.ul
 have gV:=hm.rt.len
 have dZ:=sA hm.rt hu
 refine Call.of_wp (hT.free _ rfl) Tryz.func32 rfl rfl (zg rfl (ay.b8 s rfl rfl rfl (fg rfl dZ) ?_))
 intro p4 h s
 dsimp only[V.cells,List.length_cons] at s
 rw[gV] at s
 have s:Sat h (pt p4 (.cells 17 (uv::Rt) false)::_):=s
 refine ay.b8 s rfl rfl rfl (fg rfl rfl) (fun p5 h s => ?_)
 dsimp only[Nat.reduceAdd,V.cells,List.length_cons,List.length_nil] at s
 refine ay.b8 s rfl rfl rfl (bU xy) (fun p6 h s => ?_)
 dsimp only[V.cells,List.length_cons,List.length_nil,Nat.reduceAdd] at s
 refine zk 4 rfl (zl rfl (s.bZ (k:=2) rfl gu dz) (zc rfl (NA hT dZ gV (by omega) (by omega) (s.ae [3])) ?_))
 rintro v h ⟨wv,rfl,s⟩
 have UX:=s.iY (j:=0) rfl
 have oC:=sA hm.rt UX.2.1
 have s:=s.ae [4]
 dsimp only[aL,bringA,getA] at s
 refine zS rfl (s.ep (j:=0) rfl dz (by rw[aX,gV]) oC) ?_
 rintro h s
 dsimp only[setA] at s
 have s:=s.ae [0,3,2,0,1]
 dsimp only[bringA,getA,aL] at s
 have done:∀ {I:V} {J:List V} {U':List Bool} {ah:aZ} {bR:List (Int×List Nat)} {bl:Bool} {h':H},NW N bR→As N lv dd sm ε now I J U' ah bR bl →
   Sat h' (pt p4 (.cells 17 (I::J) false)::pt p5 (.cells 3 [.int .i64 z,.int .i64 x,.int .i64 y] false)::pt p6 (.cells 17 (I::J) false)::.arr 1 I (eL U')::GA g a p q r data aB bR ah::ji uv (eL U)::S) →
   ∃u2 Rt2 U2 jH yh b2,V.bf [.agg (I::J),.bool bl]=.bf [.agg (u2::Rt2),.bool b2]∧NW N yh∧As N lv dd sm ε now u2 Rt2 U2 jH yh b2∧storable u2=true∧u2.beq u2=true∧Sat h' (ji u2 (eL U2)::GA g a p q r data aB yh jH::S):=fun {I J U' ah bR bl h'} g3 g4 s'=>by
  have hv:=s'.iY (j:=3) rfl
  have abP:U'.length=N:=by
   rcases g4 with⟨_,_,_,_,_,q,_⟩|⟨_,_,_,q⟩
   ·exact q.ul
   ·exact q
  have s2:=DX (s'.ae [3]) (by rw[g_,abP];omega)
  exact⟨I,J,U',ah,bR,bl,rfl,g3,g4,hv.2.1,hv.2.2,(((s2.ae [0,3]).del 5).del 4).del 3 |>.del 2⟩
 refine zk 4 rfl (zY s 1 HM cL rfl (zv (WP.block (zK 3 rfl ?_))))
 by_cases h0:z=0
 ·skip
  refine zB rfl dG (by simp;omega) ?_
  refine zk 5 rfl ?_
  refine UU hT hM gj hw hm s ⟨rfl,rfl,rfl,rfl,aa⟩ (fun I J U' ah bR bl E' h' g3 g4 g6 g7 s' => ?_)
  exact⟨aa,_,G3 g6 (s'.bZ (k:=2) rfl gu dz) g7,done g3 g4 s'⟩
 ·skip
  refine zC rfl dG (by simp;omega) ?_
  refine zk 4 rfl ?_
  by_cases h1:z=1
  ·skip
   refine zB rfl dG (by simp;omega) ?_
   refine zk 3 rfl ?_
   refine UU hT hM gj hw hm s ⟨rfl,rfl,rfl,rfl,aa⟩ (fun I J U' ah bR bl E' h' g3 g4 g6 g7 s' => ?_)
   exact⟨aa,_,G3 g6 (s'.bZ (k:=2) rfl gu dz) g7,done g3 g4 s'⟩
  ·skip
   refine zC rfl dG (by simp;omega) ?_
   refine zk 5 rfl ?_
   by_cases h2:z=2
   ·skip
    refine zB rfl dG (by simp;omega) ?_
    refine zk 3 rfl ?_
    refine aaH hT hM gj hw hm s ⟨rfl,rfl,rfl,rfl,aa⟩ (fun I J U' ah bR bl E' h' g3 g4 g6 g7 s' => ?_)
    exact⟨aa,_,G3 g6 (s'.bZ (k:=2) rfl gu dz) g7,done g3 g4 s'⟩
   ·skip
    refine zC rfl dG (by simp;omega) ?_
    refine za rfl (zv (zj rfl (WP.skip ?_)))
    refine aaI hT hM gj hw hm s ⟨rfl,rfl,rfl,rfl,aa⟩ (fun I J U' ah bR bl E' h' g3 g4 g6 g7 s' => ?_)
    exact⟨aa,_,G3 g6 (s'.bZ (k:=2) rfl gu dz) g7,done g3 g4 s'⟩
end
end Go.Proofs.YtefepnnfphdkpaaGreat.Am
