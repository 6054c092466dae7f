/- AtomTorn: a part of its proof; conditions: its statement's. -/
import Derived.Test.YtconhghphklfjaaGreatT40
import Derived.Test.YtconhghphklfjaaGreatT38
import Derived.Test.YtconhghphklfjaaGreatT24
import Derived.Test.YtconhghphklfjaaGreatT35
import Derived.WalkKit
import Derived.ProofKit
import Derived.OpenShut
import Derived.ChangeSlices
set_option linter.defProp false
namespace Go.Proofs.YtconhghphklfjaaGreat.Am
open Go
def Ay:=@Tryz.underlying56
structure TI (N:Nat)(data:List Nat)(aC:Nat)(ε:aO): Prop where
 ex:∃ba mk rs r1 B0 g,1≤ba∧DC mk ba aC∧mk.length≤64∧RS N ba aC mk rs B0 g ε∧sK ba aC data rs r1 ε.2.1.forced g
theorem RS.abn {N ba aC:Nat}{mk:List Nat}{rs:List bR}{B0:Int→List Nat}{g:Int→Option Nat}{ε:aO}(h:RS N ba aC mk rs B0 g ε): ε.2.1.forced≤ε.2.1.b.length:=by
 have q:=jT.1 h.ri
 rw [q.len]; exact q.le
theorem RU {a b:Nat}: DC (eV a b) a b:=.inr rfl
section
variable {N B:Nat} {ε ε':aO} {ps ff:List (List Nat)} {data cP:List Nat} {aC eE aK:Nat} {e:Int} {D:jh}
theorem sD.forced {now:List (Int×List Nat)}{kd tx pv nx qh aK:Nat}{dt:List Nat}{cl:Bool}(hr:sD ε now kd tx pv nx dt qh aK e cl ε'){F:Nat}(h:F≤ε.2.1.forced∧ε.2.1.forced≤ε.2.1.b.length): F≤ε'.2.1.forced∧ε'.2.1.forced≤ε'.2.1.b.length:=by
 have pr:=kC F
 have app:∀ {x:LD} {kd:Int} {tx pv nx:Nat} {dt:List Nat} {c:List cn},F≤x.1.forced∧x.1.forced≤x.1.b.length→F≤(bq x kd tx pv nx dt c).2.1.forced∧(bq x kd tx pv nx dt c).2.1.forced≤(bq x kd tx pv nx dt c).2.1.b.length:=fun {x kd tx pv nx dt c} h=>by
  rcases ju x kd tx pv nx dt c with ⟨e,_,_,I⟩ | ⟨_,_,I⟩ | ⟨_,_,_,_,_,I⟩
  ·rw [I]; exact h
  ·rw [I]; exact h
  ·rw [I]; exact ⟨h.1,by show x.1.forced≤(x.1.b++_).length; rw [bC]; omega⟩
 cases hr with
 | arg _=>exact h
 | dead _ _ _ _=>exact h
 | mD e c ε' _ _ _ _ J _=>exact pr.ch J h
 | app c U _ _ _ _ J _=>exact app (pr.ch J h)
 | put c U e MJ _ _ _ _ J _ hp=>exact pr.pt hp (app (pr.ch J h))
theorem uY.forced {F:Nat}(ho:uY N D ε ps e ff aK ε')(h:F≤ε.2.1.forced∧ε.2.1.forced≤ε.2.1.b.length): F≤ε'.2.1.forced:=by
 have pr:=kC F
 cases ho with
 | drop ε' ha I hg=>exact (I _ (pr.oD N) h).1
 | fail J ε' aK e ha I hg hw hi U he=>exact (U.forced (I _ (pr.oD N) h)).1
 | done J ε' aK ha I hg hw hi U=>exact (U.forced (I _ (pr.oD N) h)).1
theorem TI.step (h:TI N data aC ε)(I:EI N B ε)(hB:B≤1000)(hp:yB N D ε ps data aC e ff aK ε' cP eE): TI N cP eE ε':=by
 obtain ⟨ba,mk,rs,r1,B0,g,hb,hm,J,U,hc⟩:=h.ex
 have HM:=U.abn
 have yy:=jT.1 U.ri
 cases hp with
 | Xj e ff aK ε' _ ho =>
  have hF:=ho.forced ⟨aI _,HM⟩
  rcases ho.rs U with ⟨_,_,q⟩ | ⟨r0,g',_,_,_,_,q,hg⟩
  ·exact ⟨ba,mk,rs,r1,B0,g,hb,hm,J,q,hc.more (fun _ _ q=>q) hF⟩
  ·exact ⟨ba,mk,_,r1,B0,g',hb,hm,J,q,hc.app hg hF⟩
 | ck e lo ε' cP eE _ _ hk =>
  rcases U.ckG I hB hb hk with ⟨_,rfl,rfl,q,hF⟩ | ⟨_,rfl,b,Td,r1',B1,u9,q,SE⟩
  ·exact ⟨ba,mk,rs,r1,B0,g,hb,hm,J,q,by rw [hF]; exact hc⟩
  ·exact ⟨b,_,Td,r1',B1,g,u9,RU,by rw [nH]; decide,q,SE⟩
 | all _ =>
  obtain ⟨w1,w2,w3⟩:=I.writeAll
  have hF:=((kC ε.2.1.forced).all (l:=aF ε.1.aE) ⟨aI _,HM⟩).1
  exact ⟨ba,mk,rs,r1,B0,g,hb,hm,J,U.pre (fun P hP hv=>(vN hP I.ec (vA ε) hv).1) w3,hc.more (fun _ _ q=>q) hF⟩
 | sync _ =>
  obtain ⟨w1,w2,w3⟩:=I.sync
  obtain ⟨q1,q2⟩:=RI.sync U.ri I.ec U.st
  rw [q1] at w3 ⊢
  refine ⟨ba,mk,rs,r1,B0,_,hb,hm,J,⟨U.lr.sync,q2,fun n h0 h1=>by rw [w3 n h0]; exact U.st n h0 h1,U.gd⟩,hc.more (fun n rec q => ?_) (aI _)⟩
  unfold syG at q
  split at q
  ·rename_i hq
   have q:=bx q
   subst q
   exact yy.sV _ _ _ hq
  ·cases q
 | clean _ =>
  have hF:ε.2.1.forced≤(er ε).2.2.1.forced:=by
   have h1:=((kC ε.2.1.forced).all (l:=aF ε.1.aE) ⟨aI _,HM⟩).1
   unfold er
   split
   ·exact aI _
   ·split <;> exact h1
  exact ⟨ba,mk,rs,r1,B0,_,hb,hm,J,U.clean I,hc.more (fun n rec q=>by cases q) hF⟩
 | force _ =>
  obtain ⟨w1,w2,w3⟩:=I.force (n:=ε.2.1.base+ε.2.1.b.length)
  have hF:=((kC ε.2.1.forced).force ε.2 (ε.2.1.base+ε.2.1.b.length) ⟨aI _,HM⟩).1
  have hv:vw (RI ba oA B0 rs g) (ε.1,(aT ε.2 (ε.2.1.base+ε.2.1.b.length)).2):=by
   have key:aT ε.2 (ε.2.1.base+ε.2.1.b.length)=(0,({ ε.2.1 with forced:=ε.2.1.b.length },{ ε.2.2 with aJ:=ε.2.2.log.length })):=by
    rw [aT,af (by omega),Cd I.ec.dk,af (by simp)]
   rw [key]; exact yy.all
  exact ⟨ba,mk,rs,r1,B0,g,hb,hm,J,⟨(lD ba aC mk rs).force _ _ U.lr,hv,fun n h0 h1=>by rw [w3]; exact U.st n h0 h1,U.gd⟩,hc.more (fun _ _ q=>q) hF⟩
end
theorem BR.PC {N B f ba aC:Nat}{mk data:List Nat}{rs r1:List bR}{B0:Int→List Nat}{g:Int→Option Nat}{δ:Dk}(h:BR N ba aC mk rs B0 g (szB rs) δ)(nq:BP rs B0)(hc:sK ba aC data rs r1 (szB rs) g)(kV:δ.Ok)(hw:δ.waiting.length≤268435456)(K6:1≤B)(hB:B≤1000)(eX:ba+szB rs≤B*1048600)(uZ:aC≤1099511627776)(Ph:mk.length≤64)(c:List Nat)(hf:1≤f)(Dz:f≤1024):
  ∃r2 j,δ.Cr∧oG (eU δ c) 65536∧(eU δ c).mark=mk∧(eU δ c).log=logB ba rs++j∧rS j∧(∀r∈rs,r.Ok)∧MD ba aC rs data r1 r2∧ba+(eU δ c).log.length≤1099511627776∧(eP (eU δ c) ba rs r1 r2).1=0 ∧
   EI N B (Pl.fresh f,(ie ba aC rs,(eP (eU δ c) ba rs r1 r2).2))∧RS N ba aC mk rs B0 (fun _=>none) (Pl.fresh f,(ie ba aC rs,(eP (eU δ c) ba rs r1 r2).2)):=by
 obtain ⟨u,v,r2,hu,hF,DF,GO⟩:=h.cr nq hc kV.aJ
 have hv:v=[]:=by
  cases v with
  | nil=>rfl
  | cons r v =>
   have:=si r
   rw [hu,fS,szB] at hF; omega
 subst hv
 rw [bF] at hu
 subst hu
 obtain ⟨C,d,x,tn,hvx,hl,hFx,hN,hd,ht⟩:=h.ex
 have J:δ.aq.length=N:=by rw [hd.aq]; exact hN
 have YZ:δ.log.length≤16777216:=kV.len
 have U:δ.Cr:=⟨kV,fun w hq=>by rw [hd.wait] at hq; rw [hd.aq]; exact hl.wait w hq,hw,fun w hq=>by rw [hd.dh] at hq; obtain ⟨k1,k2,_⟩:=ht w hq; exact ⟨by rw [J]; exact k1,k2⟩,by rw [hd.tail,hl.tail]; exact YZ,by rw [hd.mark,hl.mark]; exact Ph⟩
 obtain ⟨t,t',oz,XF⟩:=GO.YW c
 obtain ⟨rfl,rfl⟩:=List.append_eq_nil_iff.1 oz.symm
 rw [bF,bF] at XF
 obtain ⟨J2,GX⟩:=RH (c:=c) U
 have Ke:jU ba B0 rs r1 r2 N (eU δ c):=⟨XF,rfl,by rw [GX]; exact J,fun k hk=>(by cases hk),kG,fun n b hb=>(by cases hb)⟩
 obtain ⟨j,e1,e2⟩:=Ke.XB
 have hlen:(eU δ c).log.length≤16777216:=J2.ok.len
 obtain ⟨o1,o2,o3⟩:=Ke.eng (aC:=aC) (B:=B) (f:=f) rfl rfl rfl RG J2.ok hf Dz K6 hB eX uZ
 have I:(eU δ c).mark=mk:=by show δ.mark=mk; rw [hd.mark]; exact hl.mark
 rw [I] at o3
 exact ⟨r2,j,U,J2,I,e1,e2,o3.lr.rs,DF,by omega,o1,o2,o3⟩
theorem Sat.XG {P:Program}{h:H}{S:List ax}{k j:Nat}{v:V}{cs:List V}{t e:TypeId}{i:Nat}(s:Sat h S)(hj:getA S j=some (iL k v cs))(hi:i*k+k≤cs.length)(hk:1≤k)(hu:P.underlying t=some (.slice e))(I:bJ P e=some k)(ha:b_ P e=some true):
  ∃id off,indexAddrV P t v (.int .i64 (i:Int))=some (.ptr id off)∧loadV P h e (.ptr id off)=some (.agg ((cs.drop (i*k)).take k))∧∀m c t',((cs.drop (i*k)).take k)[m]?=some c→b_ P t'=some false→loadV P h t' (.ptr id (off+m))=some c:=by
 rcases s.rowAt hj with ⟨_,rfl⟩ | ⟨id,len,cap,rfl,hl,U⟩
 ·simp at hi; omega
 ·refine ⟨id,i*k,?_,SG ha I U rfl hi,fun m c t' J ht=>Kh ht U ?_⟩
  ·simp only [indexAddrV,hu,I,cQ]
   have:i<len:=by
    have h4:i*k+k=(i+1)*k:=by rw [iE,we]
    rw [h4,hl] at hi
    exact D2 (DP hi hk)
   rw [show (decide ((0:Int)≤(i:Int))&&decide ((i:Int)<(len:Int)))=true by simp; omega,ag]
   simp
  ·rw [mj] at J
   split at J
   ·rw [jW] at J; rw [fV]; exact J
   ·cases J
section
variable {told:dM} {h:H} {S:List ax} {X:ax} {r q p a:Nat} {lv cv:V} {L:List jh} {cs:List V} {c:List Nat}
end
theorem RV {mv:V}(I:mv.cells=[mv]): buildV Tryz.prog 62 [(0,.int .i64 0),(2,mv)]=some (.agg [.int .i64 0,.int .i64 0,mv,.bz]):=by
 rw [aaB]
 simp only [fillV,I]
 rfl
theorem uY.Y0 {N ba aC aK:Nat}{mk:List Nat}{rs:List bR}{B0:Int→List Nat}{g:Int→Option Nat}{D:jh}{ε ε':aO}{ps ff:List (List Nat)}(ho:uY N D ε ps 0 ff aK ε')(U:D.act≠2)(h:RS N ba aC mk rs B0 g ε):
  ∃(r0:bR) (I:Int→Option Nat),ff=nxW N D.w ps∧aK=ba+szB rs∧RS N ba aC mk (rs++[r0]) B0 I ε'∧∀n rec,I n=some rec→g n=some rec∨rec=ba+szB rs:=by
 have KU:=EV (k:=D.cX)
 have Kx:=EW (k:=D.cX)
 generalize hz:(0:Int)=e at ho
 cases ho with
 | drop ε' hb hp hg=>exact absurd hb U
 | fail Bl ε' aK e U hp hg hw hi hr he=>omega
 | done Bl ε' aK U hp hg hw hi hr =>
  obtain ⟨B,hB,hi⟩:=hi
  have J:=h.pre hp hg
  obtain ⟨r,I,k1,k2,k3,k4,k5,k6,k7,k8,k9,Tb,Xz,XA,_⟩:=hr.ri hi (by omega) hw J.lr (by omega) (by omega) (by omega) J.ri J.st J.gd
  exact ⟨r,I,rfl,k7,⟨k8,k9,Tb,Xz⟩,XA⟩
theorem RS.XH {n m f:Nat}: RS n 1 0 [] [] (fun _=>List.replicate 512 0) (fun _=>none) (Am.fresh n m f):=by
 have hi:∀k,imgOf (Dk.fresh n m) k=List.replicate 512 0:=fun k=>by rw [←EY (δ:=Dk.fresh n m) rfl]; exact Cg k
 have hC:∀n b,¬iu (Pl.fresh f) n b:=fun n b ⟨i,x,hx,_,_,k2,_⟩=>by rw [qN hx] at k2; cases k2
 have hc:∀k w,qQ (Dk.fresh n m) k w→w=List.replicate 512 0:=fun k w h=>by
  rcases h with h | ⟨wr,I,_⟩
  ·rw [h,hi]
  ·cases I
 refine ⟨⟨rfl,rfl,rfl,rfl,rfl,rfl,by show (-1:Int)<0; decide,rfl,rfl,rfl,fun w hw=>(by cases hw),fun r U=>(by cases U)⟩,?_,fun k _ _=>by rw [FQ]; exact kj.refl fE,⟨fun k x hx=>by rw [qX hx]; decide,fun r U=>(by cases U),fun t t' k ht ⟨r,U,_⟩ => ?_⟩⟩
 ·refine ⟨rfl,rfl,rfl,rfl,by show (-1:Int)<0; decide,⟨[],[],rfl,rfl⟩,aI _,fun k w t t' h0 ht sJ U J => ?_,fun k rec q=>(by cases q),fun k _ wr I=>(by cases I),fun k b hb=>absurd hb (hC k b),fun k rec q=>(by cases q),fun k rec q=>(by cases q),fun k b hb=>(by cases hb),fun k rec fl q=>(by cases q),fun k rec q=>(by cases q),fun k w h0 J => ?_,fun k q=>q.elim⟩
  ·obtain ⟨rfl,_⟩:=List.append_eq_nil_iff.1 ht.symm
   rw [hc k w J]
   exact kj.refl fE
  ·rw [hc k w J]; exact xX
 ·obtain ⟨rfl,_⟩:=List.append_eq_nil_iff.1 ht.symm
  cases U
theorem U1 {P:Program}{h:H}{t:TypeId}{x y:Operand}{k:Int}: binV P h .shr t x y (.int .i64 k) (.int .u64 2)=some (.int .i64 (k.fdiv (2^min (2:Int).toNat (IntKind.i64).bits))):=rfl
theorem XI {S:Prop}: cU (.pu S) (cY .bz []):=fun _ _ _=>.inl ⟨fun _ h=>(by cases h),.inl ⟨.inl rfl,rfl⟩⟩
theorem K7 {n m:Nat}: ∃t:Nat,t≤m∧Nat.land n m=t:=⟨_,AI,rfl⟩
theorem K8 {δ:Dk}{k:Nat}: δ.Qz (k:Int)={ δ with aD:=(k:Int) }:=by
 rw [Dk.Qz,show max (-1:Int) (k:Int)=(k:Int) by omega]
section
variable {told:dM} {h:H} {S:List ax} {X:ax} {r q p a:Nat} {lv mv dvv cv:V} {L:List jh} {Mw:List (Int×List Nat)} {cs ms:List V} {ch:List Nat} {n0:Int}
noncomputable def toL : Code:=cM [1,1,1,1,1,1,0,1,0,0] ((Tryz.f10.body).getD .skip)
theorem PD (hT:W4 told)(hL:L.length≤200)(hD:∀D∈L,D.data.length≤1048576∧D.w.length≤1048576∧∀x∈D.w,x.2.length≤1048576){t1 t2 t3:V}: ∀(j i:Nat) (ε:aO) (ps:List (List Nat)) (pv:V) (data:List Nat) (aC:Nat) (h:H) (E:List (Nat×V)) (Q:Ex→List (Nat×V)→H→Prop),i+j=L.length →
  EI 12 (1+2*i) ε→TI 12 data aC ε→ps.length=12→kZ ε ps→data.length≤1048576 →
  Sat h (cC a p q r .cK data aC::cj r p q ε.1::bh q p ε.2.1::aG p ε.2.2::.arr 1 pv (eW ps)::iL 4 lv cs::jS cs L::S) →
  Has E [(0,lv),(1,t1),(2,t2),(3,t3),(9,.ptr p 0),(10,.ptr a 0),(11,pv),(12,.int .i64 (i:Int))] →
  (∀ε' ff I cP eE E' h',EI 12 401 ε'→TI 12 cP eE ε'→ff.length=12→kZ ε' ff→cP.length≤1048576→Has E' [(1,t1),(2,t2),(3,t3),(9,.ptr p 0),(10,.ptr a 0),(11,I)] →
   Sat h' (cC a p q r .cK cP eE::cj r p q ε'.1::bh q p ε'.2.1::aG p ε'.2.2::.arr 1 I (eW ff)::S)→Q (.exit 0) E' h') →
  WP ⟨Tryz.prog,told⟩ 155 (.loop toL) E h Q:=by
 have hW:=hT.w.w.w
 intro j
 induction j with
 | zero =>
  intro i ε ps pv data aC h E Q hi J ht hN hp hd s hE hx
  have hlen:=Au s (k:=6) rfl
  refine WP.loop (WP.has hE (zK 5 rfl (zo rfl (bf rfl rfl rfl (s.As (n:=L.length) (j:=5) rfl hlen (by decide) Ay)) ?_)))
  refine zh rfl (ah rfl rfl bB) (by simp <;> omega) ?_
  exact zk 2 rfl (WP.exit (hx ε ps _ _ _ _ _ (J.more (by omega)) ht hN hp hd ⟨rfl,rfl,rfl,rfl,rfl,rfl,aa⟩ ((s.del 6).del 5)))
 | succ j ih =>
  intro i ε ps pv data aC h E Q hi J ht hN hp hd s hE hx
  have hlen:=Au s (k:=6) rfl
  have U:L[i]?=some (L[i]'(by omega)):=bg _
  generalize (L[i]'(by omega))=D at U
  have hDi:=hD D (bw U)
  obtain ⟨wv,dv,c1,s⟩:=UL (s.ae [6]) U
  dsimp only [aU,bringA] at s
  have s:=s.ae [2,2,2,2,2,0,1,0]
  dsimp only [bringA,getA,aU] at s
  obtain ⟨id,off,g1,g2,g3⟩:=s.XG (P:=Tryz.prog) (i:=i) (j:=6) rfl (by omega) (by decide) Ay aaz aaA
  rw [c1] at g2 g3
  refine WP.loop (WP.has hE (zK 5 rfl (zo rfl (bf rfl rfl rfl (s.As (n:=L.length) (j:=6) rfl hlen (by decide) Ay)) ?_)))
  refine zt rfl (ah rfl rfl bB) (by simp <;> omega) ?_
  refine zk 4 rfl (WP.block (zK 6 rfl (zo rfl (ej (r:=.ptr id off) rfl rfl g1) (zl rfl g2 (zc rfl (KW hT.w.w (D:=D) (B:=1+2*i) (by omega) J hN hp hd hDi s) ?_)))))
  rintro v h ⟨e,ff,I,aK,ε',cP,eE,h0,he,i1,i2,i3,i4,rfl,s⟩
  refine zk 14 rfl (zh rfl (dS rfl rfl) (rfl) (zk 2 rfl (zh rfl (ah rfl rfl cB) (by simp; exact he) ?_)))
  refine zp rfl (zv (zj rfl (WP.skip (zr rfl (zk 2 rfl (zv (zr rfl (zm rfl (zb rfl (by exact bU (aY (by omega) (by omega))) ?_)))))))))
  refine za rfl (zv ?_)
  exact ih (i+1) ε' ff I cP eE _ _ Q (by omega) (i1.more (by omega)) (ht.step J (by omega) h0) i2 i3 i4 s ⟨rfl,rfl,rfl,rfl,rfl,rfl,rfl,rfl,aa⟩ hx
theorem U2 (hT:W4 told)(hD:∀D∈L,D.data.length≤1048576∧D.w.length≤1048576∧∀x∈D.w,x.2.length≤1048576)(hLn:L.length≤1048576)(hM:Mw.length≤1048576∧∀x∈Mw,x.2.length≤1048576)(s:Sat h (iL 4 lv cs::jS cs L::iL 2 mv ms::l_ ms Mw::.ct cv ch::S)):
  Call ⟨Tryz.prog,told⟩ 10 [lv,mv,.int .i64 n0,cv] h fun v h'=>v=.bool true:=by
 have hW:=hT.w.w.w
 have hlen:=Au s (k:=1) rfl
 have XJ:=s.Xf (j:=2) rfl
 refine Call.of_wp (hW.free _ rfl) Tryz.func10 rfl rfl (zK 7 rfl (zc rfl (Rv hT.w s) ?_))
 rintro v h' ⟨rfl,rfl⟩
 refine zh rfl (dS rfl rfl) (rfl) (zk 7 rfl (zo rfl (bf rfl rfl rfl (s.As (n:=L.length) (j:=0) rfl hlen (by decide) Ay)) ?_))
 by_cases hL:200<L.length
 ·skip
  refine zt rfl (ah rfl rfl ep) (by simp; omega) ?_
  refine zk 6 rfl (WP.ret ⟨aa,_,rfl,?_⟩)
  trivial
 ·skip
  refine zh rfl (ah rfl rfl ep) (by simp; omega) ?_
  refine zk 5 rfl (zc rfl (Mk (n:=12) (m:=131072) (f:=16) hW s (by decide) (by decide) (by decide) (by decide) (by decide)) ?_)
  rintro v h ⟨p,a,q,r,rfl,s⟩
  refine zk 10 rfl (zh rfl (ah rfl rfl (Dn Ap)) (rfl) ?_)
  obtain ⟨i1,lZ,kf,sR⟩:=Iw
  obtain ⟨pv,h1,e3,s1⟩:=vk (P:=Tryz.prog) s qM lZ Wa kf (by omega) rfl (by decide) (by decide) (n:=12) (c:=12) (by decide) (by decide)
  refine zk 5 rfl (aB.any rfl rfl rfl (OpR.of (R:=fun v h'=>v=pv∧h'=h1) (rY rfl rfl e3) ⟨rfl,rfl⟩) ?_)
  rintro v h ⟨rfl,rfl⟩
  have s:Sat h (.arr 1 v (eW (List.replicate 12 []))::_):=s1
  refine zk 7 rfl (WP.block ?_)
  refine PD hT (cs:=cs) (L:=L) (by omega) hD L.length 0 (fresh 12 131072 16) (List.replicate 12 []) _ _ _ _ _ _ (by omega) (EI.fresh (by decide) (by decide) (by decide) (by decide)) ⟨1,[],[],[],_,_,aI 1,.inl ⟨rfl,rfl,rfl⟩,by decide,RS.XH,⟨fun n rec q=>(by cases q),.inl ⟨rfl,rfl,rfl⟩⟩⟩ rfl kZ.fresh (eM _)
   (s.ae [1,1,1,1,0,0,0,0,0,0]) ⟨rfl,rfl,rfl,rfl,rfl,rfl,rfl,rfl,aa⟩ (fun ε ps wS data aC E' h' nt ht hN hp hd hE s' => ?_)
  have s:=s'
  refine WP.has hE ?_
  obtain ⟨w1,w2,w3⟩:=nt.clean
  obtain ⟨v1,v2,v3⟩:=nt.writeAll
  have Ar:=nt.cm
  have KC:=lX (ε:=ε)
  obtain ⟨y1,y2⟩:=nt.aE
  have xz:∀n∈ε.1.aE.map (·.1),(Lit.int .i64 n).wf=true:=fun n hn=>wf_i64 (y1 n hn).1 (by have:=(y1 n hn).2; omega)
  refine zK 4 rfl (zc rfl (Cc hT.w.w s nt.ok.ok (by omega) (by omega) xz v2.ok.ok.dk (fun e he=>by rw [v2.ec.dk.aq]; exact v2.ec.dk.keys _ (iV he))) ?_)
  rintro v h ⟨rfl,s⟩
  rw [w1]
  refine zh rfl (ah rfl rfl aV) (by decide) ?_
  have BO:TI 12 data aC (er ε).2:=ht.step nt (by decide) (yB.clean (D:=⟨6,0,[],[]⟩) (ps:=ps) rfl)
  have OO:kZ (er ε).2 ps:=hp.of w3
  generalize (er ε).2=θ at s w2 BO OO
  have s:=s.gB (φ:=True) aa
  have aba:=w2.aN
  have eX:=w2.el.size
  refine zk 6 rfl (zc rfl (KP (lo:=0) (data:=[]) hW (s.ae [1,1,1,1,0]) XI w2.ok.ok (by decide) (by omega) (fun n hn=>wf_i64 (w2.ec.oC n hn).1 (by have:=(w2.ec.oC n hn).2; omega)) w2.el.log (by omega)) ?_)
  rintro v h ⟨e,MJ,ab5,I,hr,rfl,s⟩
  obtain ⟨i1,i2,i3⟩:=w2.Rt (by decide) hr
  rcases i3 with ⟨rfl,h9,_⟩ | ⟨rfl,_⟩ | ⟨rfl,rfl⟩
  ·simp at h9
  ·skip
   refine zk 6 rfl (zt rfl (ah rfl rfl aV) (by decide) ?_)
   refine zk 5 rfl (zt rfl (ah rfl rfl cB) (by decide) ?_)
   refine zk 2 rfl (WP.ret ⟨aa,_,rfl,?_⟩)
   rfl
  ·skip
   refine zk 6 rfl (zh rfl (ah rfl rfl aV) (by decide) ?_)
   have Xw:TI 12 [] I MJ:=BO.step w2 (by decide) (yB.ck (D:=⟨3,0,[],[]⟩) (ps:=ps) 0 0 MJ [] I rfl (.inl rfl) hr)
   have hp3:kZ MJ ps:=OO.of fun m _=>i2 m
   have s:=(s.ae [6,6]).two (C:=ow mv .bz ⟨0,0,Mw,[]⟩) (aH.iL _ _ _) (aH.l_ _ _) fun a b q1 q2=>⟨⟨ms,q1,q2⟩,⟨fun _ h=>(by cases h),.inl ⟨.inl rfl,rfl⟩⟩⟩
   have s:=s.ae [1,1,1,1,2,0,1]
   refine zk 8 rfl (zo rfl (c8 rfl (RV XJ.1)) (zc rfl (RF hT.w.w (D:=⟨0,0,Mw,[]⟩) (by show ¬(3≤(0:Int)∧(0:Int)≤7); decide) (B:=401+1) (by decide) i1 hN hp3 (eM _) ⟨eM _,hM⟩ s) ?_))
   rintro v h ⟨e,ff,pv2,aK,U,ho,j1,j2,j3,rfl,s⟩
   rcases ho.seven (by decide) (eM _) with ⟨rfl,R_⟩ | rfl
   ·skip
    obtain ⟨ba,mk,rs,r1,B0,g,hb,hm,Ox,wz,hc⟩:=Xw.ex
    obtain ⟨r0,g',acK,rfl,oR,hg⟩:=ho.Y0 (by show (0:Int)≠2; decide) wz
    have hl8:=si r0
    have yO:szB (rs++[r0])=szB rs+r0.len:=by rw [fS]; simp [szB]
    obtain ⟨f1,f2,f3⟩:=j1.force (n:=ba+szB rs)
    obtain ⟨x',ji,RW,Dz,_,_,_⟩:=(jT.1 oR.ri).force (ba+szB rs) (by omega)
    have RX:LR ba I mk (rs++[r0]) x':=by
     have:=(lD ba I mk (rs++[r0])).force _ (ba+szB rs) oR.lr
     rw [ji] at this; exact this
    obtain ⟨u,v',hu,O5⟩:=RW.forced
    have XD:u=rs++[r0]:=BQ hu (by omega)
    have qF:x'.1.forced=szB (rs++[r0]):=by rw [O5,XD]
    rw [ji] at f2 f3
    have f2:EI 12 (401+1+2) (U.1,x'):=f2
    have f3:∀m,pgA (U.1,x') m=pgA U m:=f3
    have PE:RS 12 ba I mk (rs++[r0]) B0 g' (U.1,x'):=⟨RX,RW,fun n h0 h1=>by rw [f3]; exact oR.st n h0 h1,oR.gd⟩
    have acL:=(jT.1 wz.ri).le
    have hc4:sK ba I [] (rs++[r0]) r1 (szB (rs++[r0])) g':=hc.app hg (by omega)
    have hp4:kZ (U.1,x') ff:=j3.of fun m _=>f3 m
    have XK:=f2.el.size
    have XK:x'.1.base+x'.1.b.length≤(401+1+2)*1048600:=XK
    have acM:x'.1.b.length=szB (rs++[r0]):=RW.len
    have acN:=RX.base
    have uZ:I≤1099511627776:=by
     have h1:x'.1.check≤1099511627776:=f2.ok.ok.lg.check
     have h2:=RX.check
     omega
    refine zk 14 rfl (zh rfl (dS rfl rfl) (rfl) (zk 2 rfl (zh rfl (ah rfl rfl aV) (by decide) ?_)))
    refine zk 3 rfl (zh rfl (ah rfl rfl cB) (by simp; omega) ?_)
    refine zk 4 rfl (zc rfl (FK (n:=ba+szB rs) hW (s.ae [0,1,1]) j1.ok.ok.lg j1.ok.ok.dk.aD) ?_)
    rintro v h ⟨rfl,s⟩
    rw [show aT (U.2.1,U.2.2) (ba+szB rs)=(0,x') from ji] at s
    rw [show aT (U.2.1,U.2.2) (ba+szB rs)=(0,x') from ji]
    refine zh rfl (ah rfl rfl aV) (rfl) (zk 8 rfl ?_)
    obtain ⟨k1,yM,abo⟩:=K7 (n:=(n0%(2^(IntKind.i64).bits:Int)).toNat) (m:=3)
    refine zo rfl (ah (r:=.int .i64 (k1:Int)) rfl rfl (by rw [←abo]; exact xW (m:=3) (by decide))) ?_
    refine zc rfl (Hz (n:=(k1:Int)) hW (s.ae [2])) ?_
    rintro v h ⟨rfl,s⟩
    rw [K8] at s
    obtain ⟨o1,o2,o3,o4⟩:=f2.DH (by decide) (k:=(k1:Int)) (by omega) _ rfl
    have ab6:=f2.cm
    have XL:=lX (ε:=(U.1,x'))
    have XL:x'.2.waiting.length≤Am.cm (U.1,x'):=XL
    obtain ⟨y3,y4⟩:=f2.aE
    have y4:U.1.aE.length≤12:=y4
    have XM:∀n∈U.1.aE.map (·.1),(Lit.int .i64 n).wf=true:=fun n hn=>wf_i64 (y3 n hn).1 (by have:=(y3 n hn).2; omega)
    refine zk 4 rfl (zc rfl (xQ hW (s.ae [1])) ?_)
    rintro v h' ⟨rfl,rfl⟩
    refine zc rfl (vI hW (s.ae [3,2,0]) o1 (by show x'.2.waiting.length+_≤_; omega) (by omega) XM) ?_
    rintro v h ⟨rfl,s⟩
    generalize hw:writeAllF (aF U.1.aE) (U.1,(x'.1,{ x'.2 with aD:=(k1:Int) }))=w at s o2 o3 o4
    refine zk 4 rfl (zc rfl (xQ hW (s.ae [3])) ?_)
    rintro v h' ⟨rfl,rfl⟩
    refine zc rfl (B9 hT.w.w (s.ae [0,1]) o2 o3) ?_
    rintro v h ⟨rfl,s⟩
    obtain ⟨g2,Kp,MQ,_⟩:=PE.DH f2 (k1:Int) w hw.symm
    obtain ⟨p1,p2⟩:=IQ (π:=w.2.1) o2
    generalize (cH w.2.1 w.2.2.2).2.2=δ5 at s MQ p1 p2
    have MQ:BR 12 ba I mk (rs++[r0]) B0 g2 (szB (rs++[r0])) δ5:=by rw [←qF]; exact MQ
    obtain ⟨r2,jj,z1,z2,z3,z4,z5,z6,z7,z8,z9,z10,z11⟩:=MQ.PC (f:=10) (B:=401+1+2) PE.gd (hc4.more Kp (aI _)) p1 (by omega) (by decide) (by decide) (by omega) uZ Ox ch (by decide) (by decide)
    refine zk 5 rfl (zc rfl (Iy (c:=ch) hW (s.ae [1,4]) (cJ _ _) z1) ?_)
    rintro v h ⟨q4,rfl,s⟩
    refine zc rfl (IE (n:=10) (base:=ba) (aC:=I) (rs:=rs++[r0]) (dr:=r1) (fQ:=r2) (data:=[]) hT (by decide) (by decide) s z2 rfl (by rw [z3]; exact hm) z8 uZ z4 z6 z5 z7) ?_
    rintro v h (⟨h0,_⟩ | ⟨_,a5,q5,r5,rfl,s⟩)
    ·exact absurd z9 h0
    refine zk 10 rfl (zh rfl (ah rfl rfl aV) (by decide) ?_)
    refine zk 2 rfl (zh rfl (ah rfl rfl (Dn Ap)) (rfl) (zk 4 rfl ?_))
    have hp5:kZ (Pl.fresh 10,(ie ba I (rs++[r0]),(eP (eU δ5 ch) ba (rs++[r0]) r1 r2).2)) ff:=hp4.alk j2 f2 z10 fun n h0 h1=>(z11.st n h0 h1).symm.trans (PE.st n h0 h1)
    refine zc rfl (KT (N:=12) (B:=401+1+2) (ε:=(Pl.fresh 10,(ie ba I (rs++[r0]),(eP (eU δ5 ch) ba (rs++[r0]) r1 r2).2))) hW j2 (by decide) (by decide) z10 hp5 (s.ae [0,0,0,0,5])) ?_
    rintro v h ⟨rfl,J,m1,m2,s⟩
    refine zh rfl (dS rfl rfl) (rfl) (zk 7 rfl ?_)
    have XN:=z11.pre m2.2 m2.1
    have hF6:szB (rs++[r0])≤J.2.1.forced:=(m2.2 _ ((kC (szB (rs++[r0]))).oD 12) ⟨by show _≤(logB ba (rs++[r0])).length; rw [gq]; exact aI _,aI _⟩).1
    have acO:=(jT.1 XN.ri).le
    have hp6:kZ J ff:=hp5.of fun m _=>m2.1 m
    refine zc rfl (Rg hW s) ?_
    rintro v h' ⟨rfl,rfl⟩
    refine zk 6 rfl ?_
    obtain ⟨k2,Kr,abp⟩:=K7 (n:=((n0.fdiv (2^min (2:Int).toNat (IntKind.i64).bits))%(2^(IntKind.i64).bits:Int)).toNat) (m:=7)
    refine zb rfl U1 (zo rfl (ah (r:=.int .i64 (k2:Int)) rfl rfl (by rw [←abp]; exact xW (m:=7) (by decide))) ?_)
    refine zc rfl (Hz (n:=(k2:Int)) hW (s.ae [3])) ?_
    rintro v h ⟨rfl,s⟩
    rw [K8] at s
    obtain ⟨o5,o6,o7,o8⟩:=m1.DH (by decide) (k:=(k2:Int)) (by omega) _ rfl
    obtain ⟨g7,hg7,DI,abq⟩:=XN.DH m1 (k2:Int) _ rfl
    have ab7:=m1.cm
    have acP:=lX (ε:=J)
    obtain ⟨y5,y6⟩:=m1.aE
    have XO:∀n∈J.1.aE.map (·.1),(Lit.int .i64 n).wf=true:=fun n hn=>wf_i64 (y5 n hn).1 (by have:=(y5 n hn).2; omega)
    have abr:=MP (ε:=(J.1,(J.2.1,{ J.2.2 with aD:=(k2:Int) }))) XN.lr.alive abq
    refine zk 4 rfl (zc rfl (Cc (ε:=(J.1,(J.2.1,{ J.2.2 with aD:=(k2:Int) }))) hT.w.w (s.ae [1,1,1,0]) o5 (by show J.2.2.waiting.length+J.1.aE.length≤_; omega) (by show J.1.aE.length≤_; omega) XO o6 o7) ?_)
    rintro v h ⟨rfl,s⟩
    obtain ⟨p3,p4⟩:=IQ (π:=(writeAllF (aF J.1.aE) (J.1,(J.2.1,{ J.2.2 with aD:=(k2:Int) }))).2.1) o6
    rw [←abr] at p3 p4 DI
    generalize (er (J.1,(J.2.1,{ J.2.2 with aD:=(k2:Int) }))).2=κ at s p3 p4 DI
    have DI:BR 12 ba I mk (rs++[r0]) B0 g7 (szB (rs++[r0])) κ.2.2:=by
     rw [show szB (rs++[r0])=J.2.1.forced by omega]; exact DI
    obtain ⟨r3,jk,x1,x2,x3,x4,x5,x6,x7,x8,x9,SH,x11⟩:=DI.PC (f:=12) (B:=401+1+2) PE.gd (sK.more (g:=fun _=>none) ⟨fun n rec q=>(by cases q),hc4.pt⟩ hg7 (aI _)) p3 (by omega) (by decide) (by decide) (by omega) uZ Ox ch (by decide) (by decide)
    refine zk 5 rfl (zc rfl (Iy (c:=ch) hW (s.ae [3,5]) (cJ _ _) x1) ?_)
    rintro v h ⟨q7,rfl,s⟩
    refine zc rfl (IE (n:=12) (base:=ba) (aC:=I) (rs:=rs++[r0]) (dr:=r1) (fQ:=r3) (data:=[]) hT (by decide) (by decide) s x2 rfl (by rw [x3]; exact hm) x8 uZ x4 x6 x5 x7) ?_
    rintro v h (⟨h0,_⟩ | ⟨_,a8,q8,r8,rfl,s⟩)
    ·exact absurd x9 h0
    refine zk 9 rfl (zt rfl (ah rfl rfl cB) (by decide) ?_)
    refine zk 2 rfl (zt rfl (ah rfl rfl (SY Ap)) (rfl) (zk 4 rfl ?_))
    have hp8:kZ (Pl.fresh 12,(ie ba I (rs++[r0]),(eP (eU κ.2.2 ch) ba (rs++[r0]) r1 r3).2)) ff:=hp4.alk j2 f2 SH fun n h0 h1=>(x11.st n h0 h1).symm.trans (PE.st n h0 h1)
    refine zc rfl (KT (N:=12) (B:=401+1+2) (ε:=(Pl.fresh 12,(ie ba I (rs++[r0]),(eP (eU κ.2.2 ch) ba (rs++[r0]) r1 r3).2))) hW j2 (by decide) (by decide) SH hp8 (s.ae [0,0,0,0,5])) ?_
    rintro v h ⟨rfl,ε9,_,_,s⟩
    refine zk 3 rfl (WP.ret ⟨aa,_,rfl,?_⟩)
    rfl
   ·skip
    refine zk 14 rfl (zh rfl (dS rfl rfl) (rfl) (zk 2 rfl (zt rfl (ah rfl rfl aV) (by decide) ?_)))
    refine zk 16 rfl (zt rfl (ah rfl rfl cB) (by decide) ?_)
    refine zk 2 rfl (WP.ret ⟨aa,_,rfl,?_⟩)
    rfl
end
set_option maxRecDepth 10000000 in
set_option maxHeartbeats 0 in
theorem MR : isTrue (run CB 100000 11 [] ⟨0,.lf⟩)=true:=by kernel_rfl
noncomputable def toldAw : List V→H→Option (V×H)
 | [],h=>some (.bool true,h)
 | _,_=>none
theorem Rel.grown {c:Ctx}{σ:H}{w w':World}(h:Rel c σ w)(hs:w.heap.size≤w'.heap.size)(J:∀b,b<w.heap.size→w'.heap[b]?=w.heap[b]?)(ho:w'.os=w.os∧w'.output=w.output): Rel c σ w'∧dL c w c w':=by
 have rows:∀b,b<w.heap.size→rowSize w' b=rowSize w b:=fun b I=>by unfold rowSize; rw [J b I]
 refine ⟨⟨h.next,h.live,fun id hi=>gI (h.kQ id hi) hs,fun id hi=>by rw [rows _ (h.kQ id hi)]; exact h.zz id hi,h.inj,
  fun id o ho=>(h.obj id o ho).later (Ext.refl c) (h.live id o ho) (J _ (h.kQ id (h.live id o ho))),h.one,h.fx⟩,
  ⟨Ext.refl c,hs,rows,fun b I _=>J b I,fun id U h2=>by omega,ho⟩⟩
theorem PF : Ei Tryz.prog 11 toldAw:=by
 refine .inl ⟨⟨_,Tryz.func11,rfl,by decide⟩,fun args σ v iJ J c w h hw => ?_⟩
 unfold toldAw at J
 split at J
 ·simp only [au,aP] at J
  obtain ⟨rfl,rfl⟩:=J
  have I:=MR
  cases U:run CB 100000 11 [] ⟨0,.lf⟩ with
  | none=>rw [U] at I; cases I
  | some x =>
   obtain ⟨v,h'⟩:=x
   rw [U] at I
   have hv:v=.bool true:=by
    unfold isTrue at I
    split at I
    ·rename_i he; simp only [au,aP] at he; exact he.1
    ·cases I
   subst hv
   have:=CI (C:=CB) ic fH U (Rel.empty w) (fun x hx=>by cases hx)
   unfold fX at this ⊢
   refine Calls.mono this ?_
   rintro e w' ⟨c',rfl,_,_,hs⟩
   obtain ⟨g1,g2⟩:=h.grown hs.size (fun b hb=>hs.cX b hb fun id yh=>absurd yh (AJ _)) hs.sys
   exact ⟨c,rfl,aa,g1,g2⟩
 ·cases J
noncomputable def DJ (f:Nat): Option (List V→H→Option (V×H)) :=
 cond (Nat.beq f 11) (some toldAw) (cond (Nat.beq f 75) (some (nK Tryz.prog 75 EN))
  (cond (Nat.beq f 76) (some (nK Tryz.prog 76 HW)) (Dl f)))
noncomputable abbrev CL : dF:=⟨Tryz.prog,DJ⟩
theorem RY : W3 DJ:=by
 refine ⟨⟨⟨fun f I => ?_,rfl,rfl⟩,rfl,rfl⟩,toldAw,rfl,fun _=>rfl⟩
 have J:f≠11:=fun e=>by subst e; revert I; decide
 have U:f≠75:=fun e=>by subst e; revert I; decide
 have h3:f≠76:=fun e=>by subst e; revert I; decide
 simp only [DJ,cS J,cS U,cS h3,ay]
 exact W.base.free f I
theorem RZ : hG CL:=by
 intro f g I
 simp only [CL,DJ] at I ⊢
 by_cases J:f=11
 ·subst J
  rw [g9 rfl,ag] at I
  simp only [au] at I
  subst I
  exact PF
 ·rw [cS J,ay] at I
  by_cases U:f=75
  ·subst U
   rw [g9 rfl,ag] at I
   simp only [au] at I
   subst I
   exact Af ⟨_,Ac,rfl,by decide⟩
  ·rw [cS U,ay] at I
   by_cases h3:f=76
   ·subst h3
    rw [g9 rfl,ag] at I
    simp only [au] at I
    subst I
    exact Af ⟨_,HV,rfl,by decide⟩
   ·rw [cS h3,ay] at I
    exact fH f g I
def IS (c:Ctx): Prop:=∀id,id<c.N→c.X id=true
noncomputable def Ctx.fix (c:Ctx)(w:World)(b off:Nat): Ctx:=⟨fun i=>if i=c.N then (b,off) else c.ρ i,fun x=>if x=b then rowSize w b else c.Z x,c.N+1,fun i=>if i=c.N then true else c.X i⟩
theorem Rel.fix {c:Ctx}{σ:H}{w:World}(h:Rel c σ w)(hX:IS c){b off:Nat}{cs:List V}{C:Array Value}{e:TypeId}{fz:Nat×Nat}(hb:w.heap[b]?=some (.cells C e fz))(hl:off+cs.length≤C.size)
 (hc:∀j v,cs[j]?=some v→C[off+j]?=some (conc c v))(mV:∀v∈cs,wf c v∧storable v=true):
  Rel (c.fix w b off) (σ.new (.cells cs.length cs true)) w∧IS (c.fix w b off)∧Ext c (c.fix w b off)∧(c.fix w b off).ρ σ.next=(b,off)∧σ.next<(c.fix w b off).N:=by
 have hold:∀i,i<c.N→(c.fix w b off).ρ i=c.ρ i:=fun i hi=>by simp [Ctx.fix,jm hi]
 have XP:∀i,i<c.N→(c.fix w b off).X i=c.X i:=fun i hi=>by simp [Ctx.fix,jm hi]
 have I:(c.fix w b off).ρ c.N=(b,off):=by simp [Ctx.fix]
 have hnX:(c.fix w b off).X c.N=true:=by simp [Ctx.fix]
 have hN:(c.fix w b off).N=c.N+1:=rfl
 have bV:b<w.heap.size:=(Array.getElem?_eq_some_iff.1 hb).1
 have U:IS (c.fix w b off):=fun i hi=>by
  by_cases J:i=c.N
  ·rw [J]; exact hnX
  ·rw [XP i (by rw [hN] at hi; omega)]; exact hX i (by rw [hN] at hi; omega)
 have ex:Ext c (c.fix w b off):=⟨by rw [hN]; omega,hold,fun i hi=>by
  show (if (c.ρ i).1=b then rowSize w b else c.Z (c.ρ i).1)=_
  split
  ·rename_i he; rw [h.zz i hi,he]
  ·rfl,XP⟩
 have key:∀i o,(σ.new (.cells cs.length cs true)).tr.get i=some o→(i=c.N∧o=.cells cs.length cs true)∨(i<c.N∧σ.tr.get i=some o):=by
  intro i o hi
  rw [f_,h.next] at hi
  by_cases J:i=c.N
  ·simp [J] at hi; exact .inl ⟨J,hi.symm⟩
  ·simp [J] at hi; exact .inr ⟨h.live i o hi,hi⟩
 refine ⟨⟨by simp [H.new,h.next,hN],fun i o hi => ?_,fun i hi => ?_,fun i hi => ?_,fun i j o o' hi hj he => ?_,fun i o hi => ?_,fun i sO nu hi hx => ?_,fun i o hi hx => ?_⟩,U,ex,by rw [h.next]; exact I,by rw [h.next,hN]; omega⟩
 ·rw [hN]; rcases key i o hi with ⟨J,_⟩ | ⟨J,_⟩ <;> omega
 ·rw [hN] at hi
  by_cases J:i=c.N
  ·rw [J,I]; exact bV
  ·rw [hold i (by omega)]; exact h.kQ i (by omega)
 ·rw [hN] at hi
  by_cases J:i=c.N
  ·rw [J,I]; show (if b=b then rowSize w b else c.Z b)=_; rw [aj rfl]
  ·rw [hold i (by omega)]
   show (if (c.ρ i).1=b then rowSize w b else c.Z (c.ρ i).1)=_
   split
   ·rename_i he; rw [he]
   ·exact h.zz i (by omega)
 ·have li:i<c.N+1:=by rcases key i o hi with ⟨J,_⟩ | ⟨J,_⟩ <;> omega
  have lj:j<c.N+1:=by rcases key j o' hj with ⟨J,_⟩ | ⟨J,_⟩ <;> omega
  exact .inr ⟨U i (by rw [hN]; exact li),U j (by rw [hN]; exact lj)⟩
 ·rcases key i o hi with ⟨rfl,rfl⟩ | ⟨a1,a2⟩
  ·refine ⟨rfl,fun v hv=>⟨(cu ex v (mV v hv).1).2,(mV v hv).2⟩,C,e,fz,by rw [I]; exact hb,by rw [I]; exact hl,fun j v hj => ?_,aa⟩
   rw [I,(cu ex v (mV v (bw hj)).1).1]
   exact hc j v hj
  ·exact (h.obj i o a2).later ex a1 rfl
 ·have li:i<c.N+1:=by rcases key i _ hi with ⟨J,_⟩ | ⟨J,_⟩ <;> omega
  rw [U i (by rw [hN]; exact li)] at hx; cases hx
 ·rcases key i o hi with ⟨_,rfl⟩ | ⟨a1,a2⟩
  ·exact ⟨_,_,rfl⟩
  ·rw [XP i a1] at hx; exact h.fx i o a2 hx
theorem JU {c U:Ctx}{w w':World}(hX:IS c)(h:dL c w U w'): w.keptBut w' (fun _=>False)∧w.heap.size≤w'.heap.size∧∀b,b<w.heap.size→w'.heap[b]?=w.heap[b]?:=by
 have J:∀b,b<w.heap.size→w'.heap[b]?=w.heap[b]?:=fun b hb=>h.cX b hb fun id I _=>hX id I
 refine ⟨⟨h.sys.1,h.sys.2,fun i hi => ?_⟩,h.size,J⟩
 rw [J i hi]
 split <;> simp_all
end Go.Proofs.YtconhghphklfjaaGreat.Am
namespace Go.Proofs.YtconhghphklfjaaGreat.Am
open Go Go.ChangeShapes
def Az (W:World)(S:List ax)(c:Ctx)(σ:H): Prop:=Rel c σ W∧IS c∧Sat σ S
theorem Az.zero (W:World): ∃c σ,Az W [] c σ:=by
 refine ⟨_,_,Rel.empty W,fun id h=>absurd h (AJ _),⟨fun id o h=>by simp [T.j8] at h,fun _=>none,fun _=>none,fun _ _ h=>(by cases h),fun _ _ h=>(by cases h),fun _=>.inl rfl,aa⟩⟩
theorem Az.sat {W:World}{S S':List ax}{c:Ctx}{σ:H}(h:Az W S c σ)(hs:∀h,Sat h S→Sat h S'): Az W S' c σ:=⟨h.1,h.2.1,hs σ h.2.2⟩
def nQ {α:Type}(W:World)(cs:List Value)(E:List V→α→ax)(φ:α→Prop): Prop :=
 ∀(c:Ctx) (σ:H) (S:List ax),Az W S c σ→∃(I:Ctx) (J:H) (vs:List V) (x:α),Az W (E vs x::S) I J∧Ext c I∧vs.map (conc I)=cs∧(∀v∈vs,wf I v∧storable v=true)∧φ x
theorem nQ.rows {W:World}{α:Type}{E:List V→α→ax}{A:List V→List α→ax}{φ:α→Prop}(hE:∀vs x,aH (E vs x))(hA:∀l m,aH (A l m))(xg:∀m r,(A [] []).p m r)(U:∀vs x l m a b,(E vs x).p a b→(A l m).p a b→(A (vs++l) (x::m)).p a b):
  ∀(I:List (List Value)),(∀cs∈I,nQ W cs E φ)→nQ W I.flatten A (fun xs=>xs.length=I.length∧∀x∈xs,φ x):=by
 intro I
 induction I with
 | nil =>
  intro _ c σ S h
  exact ⟨c,σ,[],[],h.sat fun h s=>(s.gB (φ:=True) aa).fY fun m r _=>xg m r,Ext.refl c,rfl,fun v J=>(by cases J),rfl,fun x hx=>(by cases hx)⟩
 | cons cs I ih =>
  intro hc c σ S h
  obtain ⟨c1,R1,l,m,h1,e1,m1,w1,n1,p1⟩:=ih (fun x hx=>hc x (bp _ hx)) c σ S h
  obtain ⟨c2,XQ,vs,x,h2,e2,m2,w2,p2⟩:=hc cs br c1 R1 _ h1
  obtain ⟨q1,q2⟩:=Gx e2 fun v J=>(w1 v J).1
  refine ⟨c2,XQ,vs++l,x::m,h2.sat fun h s=>s.two (hE _ _) (hA _ _) fun a b k1 k2=>U _ _ _ _ _ _ k1 k2,e1.trans e2,?_,fun v J => ?_,by simp [n1],fun y hy => ?_⟩
  ·rw [AK,m2,q1,m1,List.flatten_cons]
  ·rcases List.mem_append.1 J with J | J
   ·exact w2 v J
   ·exact ⟨q2 v J,(w1 v J).2⟩
  ·rcases List.mem_cons.1 hy with rfl | hy
   ·exact p2
   ·exact p1 y hy
def BS {α:Type}(k:Nat)(A:List V→List α→ax)(vs:List V)(x:List α): ax:=.xs fun v:V=>.xs fun cs:List V=>.an (.pu (vs=[v])) (.an (iL k v cs) (A cs x))
theorem aH.BS {α:Type}{k:Nat}{A:List V→List α→ax}(I:∀l m,aH (A l m))(vs:List V)(x:List α): aH (Am.BS k A vs x):=aH.xs fun _=>aH.xs fun _=>aH.an (aH.pu _) (aH.an (aH.iL _ _ _) (I _ _))
theorem nQ.abt {W:World}{α:Type}{k:Nat}{A:List V→List α→ax}{φ:List α→Prop}(I:∀m r,(A [] []).p m r)(J:φ []): nQ W [.slice none 0 0] (BS k A) φ:=fun c σ S h =>
 ⟨c,σ,[.bz],[],h.sat fun h s=>(s.gB (φ:=True) aa).fY fun m r _=>⟨.bz,[],rfl,⟨none,.inl rfl,rfl⟩,I m r⟩,Ext.refl c,by simp [conc],fun v U=>by rw [List.mem_singleton.1 U]; exact ⟨aa,rfl⟩,J⟩
theorem nQ.XR {W:World}{α:Type}{k:Nat}{A:List V→List α→ax}{φ:List α→Prop}{a:Addr}(I:∀m r,(A [] []).p m r)(J:φ []): nQ W [.slice (some a) 0 0] (BS k A) φ:=fun c σ S h =>
 ⟨c,σ,[.sle a],[],h.sat fun h s=>(s.gB (φ:=True) aa).fY fun m r _=>⟨.sle a,[],rfl,⟨none,.inr ⟨a,rfl⟩,rfl⟩,I m r⟩,Ext.refl c,by simp [conc],fun v U=>by rw [List.mem_singleton.1 U]; exact ⟨aa,rfl⟩,J⟩
theorem nQ.abu {W:World}{α:Type}{k b off len cap:Nat}{A:List V→List α→ax}{φ:List α→Prop}{cs:List Value}{C:Array Value}{e:TypeId}{fz:Nat×Nat}(hb:W.heap[b]?=some (.cells C e fz))(hl:off+cs.length≤C.size)(hn:cs.length=len*k)(J:len≤cap)
 (hc:∀j v,cs[j]?=some v→C[off+j]?=some v)(hA:∀l m,aH (A l m))(ho:nQ W cs A φ): nQ W [.slice (some ⟨b,off,none⟩) len cap] (BS k A) φ:=by
 intro c σ S h
 obtain ⟨c1,I,vs,x,U,e1,m1,w1,p1⟩:=ho c σ S h
 have hlen:vs.length=cs.length:=by rw [←m1,eu]
 obtain ⟨g1,g2,g3,g4,g5⟩:=U.1.fix U.2.1 hb (cs:=vs) (off:=off) (by omega) (fun j v hv=>hc j _ (by rw [←m1,pH,hv]; rfl)) w1
 refine ⟨_,_,[.sl I.next 0 len (.exact cap)],x,⟨g1,g2,?_⟩,e1.trans g3,?_,fun v hv => ?_,p1⟩
 ·have s1:Sat (I.new (.cells vs.length vs true)) (.ro I.next (.cells vs.length vs true)::A vs x::S):=(U.2.2.new _).freeze
  refine s1.two (aH.ro _ _) (hA _ _) fun m r k1 k2=>⟨_,vs,rfl,⟨some (I.next,len,cap),k1,rfl,by rw [hlen,hn]⟩,k2⟩
 ·simp [conc,g4]
 ·rw [List.mem_singleton.1 hv]
  exact ⟨⟨g5,J⟩,rfl⟩
def Te (vs:List V)(l:List Nat): ax:=.xs fun v:V=>.an (.pu (vs=[v])) (.ct v l)
theorem aH.Te (vs:List V)(l:List Nat): aH (Am.Te vs l):=aH.xs fun _=>aH.an (aH.pu _) (aH.ct _ _)
theorem IT {W:World}{a:Addr}{v:Value}(h:W.cell? a=some v): ∃b off,a=⟨b,off,none⟩∧∃C e I,W.heap[b]?=some (.cells C e I)∧C[off]?=some v:=by
 obtain ⟨b,off,spot⟩:=a
 have hs:spot=none:=World.cell?_spot h
 subst hs
 refine ⟨b,off,rfl,?_⟩
 unfold World.cell? at h
 split at h
 ·rename_i C e I J
  exact ⟨C,e,I,J,by simpa using h⟩
 ·cases h
end Go.Proofs.YtconhghphklfjaaGreat.Am
