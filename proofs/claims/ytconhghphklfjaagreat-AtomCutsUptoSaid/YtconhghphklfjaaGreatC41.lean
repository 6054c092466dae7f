/- AtomCuts: a part of its proof; conditions: its statement's. -/
import Derived.Test.YtconhghphklfjaaGreatC40
import Derived.Test.YtconhghphklfjaaGreatC24
import Derived.Test.YtconhghphklfjaaGreatC35
import Derived.WalkKit
import Derived.ProofKit
import Derived.OpenShut
import Derived.ChangeSlices
import Derived.Test.YtconhghphklfjaaGreatRows
set_option linter.defProp false
namespace Go.Proofs.YtconhghphklfjaaGreat.Am
open Go
def zZ:=@Tryz.underlying56
theorem Ms {ε:aM}: (fD ε).2.2.2.log.length=ε.2.2.log.length∧(fD ε).2.2.2.room=ε.2.2.room:=by
 have I:=(rI ε.2.2.log.length).all (l:=aJ ε.1.aH) (ε:=ε) rfl
 have J:=(pZ ε.2.2.room).all (l:=aJ ε.1.aH) (ε:=ε) rfl
 have key:∀δ:Dk,δ.dL.2.log.length=δ.log.length∧δ.dL.2.room=δ.room:=fun δ=>by
  unfold Dk.dL
  split
  ·exact ⟨rfl,rfl⟩
  ·split <;> exact ⟨rfl,rfl⟩
 unfold fD
 split
 ·exact ⟨rfl,rfl⟩
 ·split
  ·exact ⟨I,J⟩
  ·unfold dP
   have:=key (writeAllF (aJ ε.1.aH) ε).2.2.2
   split <;> exact ⟨this.1.trans I,this.2.trans J⟩
structure uX (B K:Nat)(ε:aM): Prop where
 ei:EI 12 B ε
 rs:∃ba aC mk rs B1 g,1≤ba∧RS 12 ba aC mk rs B1 g ε
 room:ε.2.2.room=131072
 len:ε.2.2.log.length≤K
theorem uX.more {B K I K':Nat}{ε:aM}(h:uX B K ε)(J:B≤I)(U:K≤K'): uX I K' ε:=⟨h.ei.more J,h.rs,h.room,cL h.len U⟩
theorem vp.room {M aI:Nat}{D:jb}{ε ε':aM}{ps J:List (List Nat)}{e:Int}(ho:vp 12 D ε ps e J aI ε')(h:ε.2.2.room=M): ε'.2.2.room=M:=by
 have pr:=pZ M
 cases ho with
 | drop ε' ha I hg=>exact I _ (pr.od 12) h
 | fail U ε' aI e ha I hg hw hi hd he=>exact hd.room (I _ (pr.od 12) h)
 | done U ε' aI ha I hg hw hi hd=>exact hd.room (I _ (pr.od 12) h)
theorem uX.SH {B K aI:Nat}{D:jb}{ε ε':aM}{ps I:List (List Nat)}{e:Int}(h:uX B K ε)(hK:K≤100000)(ho:vp 12 D ε ps e I aI ε')(U:D.act≠2)(hd:D.data=[])(hi:EI 12 (B+2) ε'): e=0∧uX (B+2) (K+6240) ε':=by
 have hl:=h.len
 obtain ⟨h1,h2,h3⟩:=ho.fits U hd rfl h.room (by omega)
 obtain ⟨ba,aC,mk,rs,B1,g,J,hr⟩:=h.rs
 refine ⟨h1,hi,?_,ho.room h.room,by omega⟩
 rcases ho.rs hr with ⟨_,_,q⟩ | ⟨r0,g',_,_,_,_,q,_⟩
 ·exact ⟨ba,aC,mk,_,_,_,J,q⟩
 ·exact ⟨ba,aC,mk,_,_,_,J,q⟩
theorem uX.zT {B K U I:Nat}{ε ε':aM}{data dF J:List Nat}{e:Int}(h:uX B K ε)(hB:B≤900)(hK:K≤100000)(qu:data.length≤4096)(hr:Bp (fD ε).2 0 data dF U e ε' J I):
  e=0∧J=data∧Pf 12 I data ε'∧uX (B+1) 4119 ε':=by
 obtain ⟨w1,w2,w3⟩:=h.ei.clean
 obtain ⟨c1,c2⟩:=Ms (ε:=ε)
 have hl:=h.len
 have RG:=h.room
 obtain ⟨ba,aC,mk,rs,B1,g,hb,qH⟩:=h.rs
 obtain ⟨r1,r2,r3⟩:=(qH.clean h.ei).zT w2 (by omega) hb qu (by rw [c1,c2]; omega) hr
 obtain ⟨i1,_,_⟩:=w2.zT (by omega) hr
 refine ⟨r1,r2,r3,i1,?_,hr.room (c2.trans RG),r3.len⟩
 obtain ⟨rc,B2,q,_⟩:=r3.ex
 exact ⟨I,I,_,_,_,_,r3.pos,q⟩
section
variable {told:dH} {h:H} {S:List ax} {X:ax} {r q p a:Nat} {lv By:V} {L:List jb} {cs:List V} {D0:List Nat} {n0:Int}
noncomputable def acI : Code:=cK [1,1,1,1,1,1,0,1,0,0,1,0,0,0,1,0,0] ((Tryz.f8.body).getD .skip)
theorem Mt (hT:W4 told)(hD:∀D∈L,D.data.length≤1048576∧D.w.length≤1048576∧∀x∈D.w,x.2.length≤1048576)(SR:L.length≤1048576){t1 kv:V}{data:List Nat}{aC B0:Nat}(hB0:B0≤700)(hd:data.length≤1048576): ∀(j i:Nat) (ε:aM) (ps:List (List Nat)) (pv:V) (h:H) (E:List (Nat×V)) (Q:Ex→List (Nat×V)→H→Prop),i+j=min L.length 4 →
  uX (B0+2*i) (4119+6240*i) ε→ps.length=12→lP ε ps →
  Sat h (cu a p q r .cF data aC::b8 r p q ε.1::bf q p ε.2.1::aD p ε.2.2::.arr 1 pv (eH ps)::ja 4 lv cs::jc cs L::S) →
  Has E [(0,lv),(1,t1),(2,By),(7,.ptr p 0),(8,.ptr a 0),(9,pv),(10,kv),(11,.int .i64 (i:Int))] →
  (∀ε' I J E' h',uX (B0+8) 29079 ε'→I.length=12→lP ε' I→Has E' [(0,lv),(1,t1),(2,By),(7,.ptr p 0),(8,.ptr a 0),(9,J),(10,kv)] →
   Sat h' (cu a p q r .cF data aC::b8 r p q ε'.1::bf q p ε'.2.1::aD p ε'.2.2::.arr 1 J (eH I)::ja 4 lv cs::jc cs L::S)→Q (.exit 2) E' h') →
  WP ⟨Tryz.prog,told⟩ 143 (.loop acI) E h Q:=by
 have hW:=hT.w.w.w
 intro j
 induction j with
 | zero =>
  intro i ε ps pv h E Q hi U hN hp s hE hx
  have hlen:=zV s (k:=6) rfl
  have fin:uX (B0+8) 29079 ε:=U.more (by omega) (by omega)
  refine WP.loop (WP.has hE (zK 5 rfl (zo rfl (a_ rfl rfl rfl (s.zU (n:=L.length) (j:=5) rfl hlen (by decide) zZ)) ?_)))
  by_cases Bd:i<L.length
  ·skip
   refine zt rfl (ah rfl rfl bu) (by simp <;> omega) ?_
   refine zk 2 rfl (zh rfl (ah rfl rfl bu) (by simp <;> omega) ?_)
   exact zk 3 rfl (WP.exit (hx ε ps pv _ _ fin hN hp ⟨rfl,rfl,rfl,rfl,rfl,rfl,rfl,aa⟩ s))
  ·skip
   refine zh rfl (ah rfl rfl bu) (by simp <;> omega) ?_
   exact zk 6 rfl (WP.exit (hx ε ps pv _ _ fin hN hp ⟨rfl,rfl,rfl,rfl,rfl,rfl,rfl,aa⟩ s))
 | succ j ih =>
  intro i ε ps pv h E Q hi U hN hp s hE hx
  have hlen:=zV s (k:=6) rfl
  have Fx:L[i]?=some (L[i]'(by omega)):=bh _
  generalize (L[i]'(by omega))=D at Fx
  have hDi:=hD D (br Fx)
  obtain ⟨wv,dv,c1,s⟩:=Ul (s.ae [6]) Fx
  dsimp only [aT,bringA] at s
  have fW:[V.int .i64 D.act,.int .i64 D.cG,wv,dv].all storable=true:=by
   have WM:=((s.fP (B:=.cm dv D.data) (fun _ _ h=>h.2)).aG (k:=0) rfl (cJ _ _)).cells
   obtain ⟨cs',t2⟩:=gw.1 (s.fP (B:=.xs fun cs:List V=>.an (ja 2 wv cs) (nF cs D.w)) (fun _ _ h=>h.1))
   have rj:=(t2.fP (B:=ja 2 wv cs') (fun _ _ h=>h.1)).WG (j:=0) rfl
   simp only [iR,jg,rj.2.1,WM.2]; rfl
  have s:=s.fP (B:=oa wv .bz { D with act:=0,data:=[] }) (fun _ _ h=>⟨h.1,⟨fun _ h=>(by cases h),.inl ⟨.inl rfl,rfl⟩⟩⟩)
  have s:=s.ae [2,2,2,2,2,0,1,0]
  dsimp only [bringA,getA,aT] at s
  obtain ⟨id,off,g1,g2,g3⟩:=s.Xb (P:=Tryz.prog) (i:=i) (j:=6) rfl (by omega) (by decide) zZ P7 VJ
  rw [c1] at g2 g3
  refine WP.loop (WP.has hE (zK 5 rfl (zo rfl (a_ rfl rfl rfl (s.zU (n:=L.length) (j:=6) rfl hlen (by decide) zZ)) ?_)))
  refine zt rfl (ah rfl rfl bu) (by simp <;> omega) ?_
  refine zk 2 rfl (zt rfl (ah rfl rfl bu) (by simp <;> omega) ?_)
  refine zk 5 rfl (WP.block (zK 4 rfl (zo rfl (dY (r:=.ptr id off) rfl rfl g1) (zl rfl g2 ?_))))
  refine aB.cQ s rfl rfl rfl (cC aad) (fun Sw h s => ?_)
  dsimp only [V.cells,List.length_cons,List.length_nil,Nat.reduceAdd] at s
  refine zS rfl (s.YS (k:=0) (l:=[.int .i64 D.act,.int .i64 D.cG,wv,dv]) rfl P7 rfl (by show 0+4≤4; decide) fW) ?_
  intro h s
  dsimp only [List.take,List.length_cons,List.length_nil,Nat.reduceAdd,List.drop,List.cons_append,List.nil_append,setA] at s
  refine zk 3 rfl (zf rfl (GW _ _) ?_)
  refine zS rfl (by exact s.dQ (k:=0) rfl jG rfl (by decide) rfl rfl) (fun h s => ?_)
  dsimp only [Nat.reduceAdd,List.set,setA] at s
  refine zk 3 rfl (zf rfl (yN _ _) ?_)
  refine zS rfl (by exact s.dQ (k:=0) rfl jl rfl (by decide) rfl rfl) (fun h s => ?_)
  dsimp only [Nat.reduceAdd,List.set,setA] at s
  refine zk 5 rfl (zl rfl (s.fG (k:=0) rfl VJ P7) ?_)
  have s:=s.ae [1,1,1,1,1,1,1,1]
  dsimp only [bringA,getA,aT] at s
  refine zc rfl (Rl hT.w.w (D:={ D with act:=0,data:=[] }) (by show ¬(3≤(0:Int)∧(0:Int)≤7); decide) (B:=B0+2*i) (by omega) U.ei hN hp hd ⟨eU _,hDi.2⟩ s) ?_
  rintro v h ⟨e,I,J,aI,ε',ho,i1,i2,i3,rfl,s⟩
  obtain ⟨rfl,HQ⟩:=U.SH (by omega) ho (by show (0:Int)≠2; decide) rfl i1
  refine zk 14 rfl (zh rfl (dX rfl rfl) (rfl) (zk 2 rfl (zh rfl (ah rfl rfl aX) (by decide) ?_)))
  refine zk 9 rfl (zv (zj rfl (WP.skip (zr rfl (zk 2 rfl (zv (zr rfl (zm rfl (zb rfl (by exact bQ (aU (by omega) (by omega))) ?_)))))))))
  refine za rfl (zv ?_)
  have aaZ:uX (B0+2*(i+1)) (4119+6240*(i+1)) ε':=HQ.more (by omega) (by omega)
  exact ih (i+1) ε' I J _ _ Q (by omega) aaZ i2 i3 (s.del 7) ⟨rfl,rfl,rfl,rfl,rfl,rfl,rfl,rfl,aa⟩ hx
noncomputable def acO : Code:=cK [1,1,1,1,1,1,0,1,0,0] ((Tryz.f8.body).getD .skip)
theorem Mu (hT:W4 told)(hD:∀D∈L,D.data.length≤1048576∧D.w.length≤1048576∧∀x∈D.w,x.2.length≤1048576)(SR:L.length≤1048576)(hX:cT X (cU By D0))(Xc:D0.length≤1048576){m:Nat}(hm:∃t:Nat,t≤31∧m=20+t∧binV Tryz.prog ⟨0,.lf⟩ .and 3 (.tmp 0) (.tmp 0) (.int .i64 n0) (.int .i64 31)=some (.int .i64 (t:Int))):
  ∀(j k:Nat) (ε:aM) (ps:List (List Nat)) (pv:V) (data:List Nat) (aC:Nat) (h:H) (E:List (Nat×V)) (Q:Ex→List (Nat×V)→H→Prop),k+j=m →
  uX (1+10*k) 4119 ε→(1≤k→Pf 12 aC D0 ε∧data=D0)→data.length≤1048576→ps.length=12→lP ε ps →
  Sat h (cu a p q r .cF data aC::b8 r p q ε.1::bf q p ε.2.1::aD p ε.2.2::.arr 1 pv (eH ps)::ja 4 lv cs::jc cs L::X::S) →
  Has E [(0,lv),(1,.int .i64 n0),(2,By),(7,.ptr p 0),(8,.ptr a 0),(9,pv),(10,.int .i64 (k:Int))] →
  (∀E' h',look E' 6=some (.bool true)→Q .ret E' h') →
  (∀ε' I oC j_ E' h',uX 600 4119 ε'→Pf 12 j_ D0 ε'→I.length=12→lP ε' I→Has E' [(2,By),(7,.ptr p 0),(8,.ptr a 0),(9,oC)] →
   Sat h' (cu a p q r .cF D0 j_::b8 r p q ε'.1::bf q p ε'.2.1::aD p ε'.2.2::.arr 1 oC (eH I)::X::S)→Q (.exit 0) E' h') →
  WP ⟨Tryz.prog,told⟩ 143 (.loop acO) E h Q:=by
 have hW:=hT.w.w.w
 obtain ⟨t,ht1,rfl,Dq⟩:=hm
 have hand:∀ {h:H} {x y:Operand},binV Tryz.prog h .and 3 x y (.int .i64 n0) (.int .i64 31)=some (.int .i64 (t:Int)):=fun {h x y}=>Dq
 intro j
 induction j with
 | zero =>
  intro k ε ps pv data aC h E Q hk oc wF hd hN hp s hE J hx
  obtain ⟨c1,rfl⟩:=wF (by omega)
  refine WP.loop (WP.has hE (zK 5 rfl (zb rfl hand (zo rfl (ah (r:=.int .i64 ((20+t:Nat):Int)) rfl rfl (by rw [show ((20+t:Nat):Int)=20+(t:Int) by omega]; exact bQ (aU (by omega) (by omega)))) ?_))))
  refine zh rfl (ah rfl rfl bu) (by simp; omega) ?_
  exact zk 2 rfl (WP.exit (hx ε ps pv aC _ _ (oc.more (by omega) (aK _)) c1 hN hp ⟨rfl,rfl,rfl,rfl,aa⟩ ((s.del 6).del 5)))
 | succ j ih =>
  intro k ε ps pv data aC h E Q hk oc wF hd hN hp s hE J hx
  refine WP.loop (WP.has hE (zK 5 rfl (zb rfl hand (zo rfl (ah (r:=.int .i64 ((20+t:Nat):Int)) rfl rfl (by rw [show ((20+t:Nat):Int)=20+(t:Int) by omega]; exact bQ (aU (by omega) (by omega)))) ?_))))
  refine zt rfl (ah rfl rfl bu) (by simp; omega) ?_
  refine zk 4 rfl (WP.block (zK 5 rfl (WP.block ?_)))
  refine Mt hT (S:=X::S) (B0:=1+10*k) hD SR (by omega) hd (min L.length 4) 0 ε ps pv h _ _ (by omega) (oc.more (by omega) (by omega)) hN hp s ⟨rfl,rfl,rfl,rfl,rfl,rfl,rfl,rfl,aa⟩ (fun ε' I oC E' h' HQ hN' JU gu s' => ?_)
  have s:=s'
  refine WP.has gu ?_
  have U:=HQ.ei
  obtain ⟨w1,w2,w3⟩:=U.clean
  obtain ⟨v1,v2,v3⟩:=U.writeAll
  have xG:=U.ct
  have Hy:=mL (ε:=ε')
  obtain ⟨y1,y2⟩:=U.aH
  have tf:∀n∈ε'.1.aH.map (·.1),(Lit.int .i64 n).wf=true:=fun n hn=>wf_i64 (y1 n hn).1 (by have:=(y1 n hn).2; omega)
  refine zK 3 rfl (zc rfl (HW hT.w.w s U.ok.ok (by omega) (by omega) tf v2.ok.ok.dk (fun e he=>by rw [v2.ec.dk.aq]; exact v2.ec.dk.keys _ (jd he))) ?_)
  rintro v h ⟨rfl,s⟩
  rw [w1]
  refine zh rfl (ah rfl rfl aX) (by decide) ?_
  have aaM:=w2.aN
  have eO:=w2.el.size
  refine zk 3 rfl (zc rfl (KB (lo:=0) hT.w.w.w (s.ae [0,0,0,0,3]) hX w2.ok.ok (by decide) (by omega) (fun n hn=>wf_i64 (w2.ec.oR n hn).1 (by have:=(w2.ec.oR n hn).2; omega)) w2.el.log (by omega)) ?_)
  rintro v h ⟨e,Yi,Yl,aa0,hr,rfl,s⟩
  dsimp only [aT,bringA] at s
  by_cases qu:D0.length≤4096
  ·obtain ⟨rfl,rfl,g3,g4⟩:=HQ.zT (by omega) (by omega) qu hr
   refine zh rfl (ah rfl rfl aX) (by decide) ?_
   refine zp rfl (zv (zj rfl (WP.skip (zr rfl (zm rfl (zb rfl (by exact bQ (aU (by omega) (by omega))) ?_))))))
   refine za rfl (zv ?_)
   obtain ⟨_,g5,_⟩:=w2.zT (by omega) hr
   exact ih (k+1) Yi I oC Yl aa0 _ _ Q (by omega) (g4.more (by omega) (aK _)) (fun _=>⟨g3,rfl⟩) Xc hN' (JU.of fun m hm=>(g5 m).trans (w3 m hm)) (s.ae [0,0,0,0,1,1,1,0]) ⟨rfl,rfl,rfl,rfl,rfl,rfl,rfl,aa⟩ J hx
  ·have he:e=2:=by
    cases hr with
    | OB _=>rfl
    | dead h1 _=>omega
    | go _ _ _ _ h1=>omega
   subst he
   have iY:=s.aG (k:=4) rfl hX
   refine zt rfl (ah rfl rfl aX) (by decide) ?_
   refine zk 6 rfl (zo rfl (a_ rfl rfl rfl (bg aS (s.aG (k:=4) rfl hX))) (zt rfl (ah rfl rfl dR) (by simp; omega) ?_))
   exact zk 2 rfl (WP.ret (J _ _ rfl))
theorem Ph {h:H}(hw:lM h): ∃v h₁,buildSliceV Tryz.prog h 32 3 [(0,.int .u8 1),(1,.int .u8 1),(2,.int .u8 1)]=some (v,h₁)∧jD h₁ v [1,1,1]∧ee 1 [] h h₁∧∀i∈rowIds v,h.next≤i:=by
 refine ⟨.sl h.next 0 3 (.exact 3),newRow h [.int .u8 1,.int .u8 1,.int .u8 1],?_,⟨by simp,.inr (.inl ⟨h.next,[],3,rfl,?_,rfl⟩)⟩,ee.wZ hw _,fun i hi=>by simp [rowIds] at hi; omega⟩
 ·simp only [buildSliceV,aS,fu,oI,V.cells]
  rfl
 ·rw [newRow,fM,aj rfl]; rfl
theorem Ux (hT:W4 told)(hD:∀D∈L,D.data.length≤1048576∧D.w.length≤1048576∧∀x∈D.w,x.2.length≤1048576)(SR:L.length≤1048576)(Xc:D0.length≤1048576)(s:Sat h (ja 4 lv cs::jc cs L::.cm By D0::S)):
  Call ⟨Tryz.prog,told⟩ 8 [lv,.int .i64 n0,By] h fun v h'=>v=.bool true:=by
 have hW:=hT.w.w.w
 have hX:=cJ By D0
 have hlen:=zV s (k:=1) rfl
 refine Call.of_wp (hW.free _ rfl) Tryz.func8 rfl rfl (zK 7 rfl (zc rfl (Q9 hT.w s) ?_))
 rintro v h' ⟨rfl,rfl⟩
 refine zh rfl (dX rfl rfl) (rfl) (zk 7 rfl (zo rfl (a_ rfl rfl rfl (s.zU (n:=L.length) (j:=0) rfl hlen (by decide) zZ)) ?_))
 by_cases hL:200<L.length
 ·skip
  refine zt rfl (ah rfl rfl dR) (by simp; omega) ?_
  refine zk 6 rfl (WP.ret ⟨aa,_,rfl,?_⟩)
  trivial
 ·skip
  refine zh rfl (ah rfl rfl dR) (by simp; omega) ?_
  refine zk 5 rfl (zc rfl (LZ (n:=12) (m:=131072) (f:=16) hW s (by decide) (by decide) (by decide) (by decide) (by decide)) ?_)
  rintro v h ⟨p,a,q,r,rfl,s⟩
  refine zk 10 rfl (zh rfl (ah rfl rfl (C6 Db)) (rfl) ?_)
  obtain ⟨i1,lN,jX,sN⟩:=Ii
  obtain ⟨pv,h1,e3,s1⟩:=vb (P:=Tryz.prog) s qB lN VG jX (by omega) rfl (by decide) (by decide) (n:=12) (c:=12) (by decide) (by decide)
  refine zk 5 rfl (aB.any rfl rfl rfl (OpR.of (R:=fun v h'=>v=pv∧h'=h1) (rO rfl rfl e3) ⟨rfl,rfl⟩) ?_)
  rintro v h ⟨rfl,rfl⟩
  have s:Sat h (.arr 1 v (eH (List.replicate 12 []))::_):=s1
  refine zk 7 rfl (WP.block ?_)
  have hand:∃t:Nat,t≤31∧Nat.land ((n0%(2^(IntKind.i64).bits:Int)).toNat) 31=t:=⟨_,Af,rfl⟩
  obtain ⟨t,ht,hte⟩:=hand
  refine Mu hT (S:=S) (X:=.cm By D0) hD SR hX Xc (m:=20+t) ⟨t,ht,rfl,by rw [←hte]; exact BS (m:=31) (by decide)⟩ (20+t) 0 (fresh 12 131072 16) (List.replicate 12 []) _ _ _ _ _ _ (by omega)
   ⟨EI.fresh (by decide) (by decide) (by decide) (by decide),⟨_,_,_,_,_,_,aK 1,RS.Xa⟩,rfl,eU _⟩ (fun h=>absurd h (by decide)) (eU _) rfl lP.fresh (s.ae [1,1,1,1,0,0,0,0]) ⟨rfl,rfl,rfl,rfl,rfl,rfl,rfl,aa⟩ (fun E' h' hr=>⟨aa,_,oK hr,rfl⟩) (fun ε mT oC aC E' h' oc wF hN hp hE s' => ?_)
  have s:=s'
  obtain ⟨rc,B1,J,VX⟩:=wF.ex
  have ab8:=wF.pos
  have I:=oc.ei
  have xG:=I.ct
  have Hy:=mL (ε:=ε)
  have eO:=I.el.size
  have rS:=J.lr.base
  refine WP.has hE (zK 3 rfl (zc rfl (xB hW s (by omega)) ?_))
  rintro v h ⟨w,rfl,s⟩
  obtain ⟨cv,h1,e1,e2,e3,e4⟩:=Ph s.wf
  refine zk 9 rfl (aB.any rfl rfl rfl (OpR.of (R:=fun v h'=>v=cv∧h'=h1) (oJ rfl e1) ⟨rfl,rfl⟩) ?_)
  rintro v h' ⟨rfl,rfl⟩
  have s:Sat _ (bH v [1,1,1]::_):=s.CH e3 e2 e4
  have A6:=J.lr.cr I.ok.ok.dk (by omega) (by rw [mA]; decide)
  obtain ⟨Gs,EU⟩:=Iq (c:=[1,1,1]) A6
  have Ym:(fE ε.2.2 [1,1,1]).mark=ew aC aC:=J.lr.mark
  have U:aC≤1099511627776:=by omega
  obtain ⟨u,r2,jj,z1,z2,z3,z4,z5,z6,z7,z8,z9⟩:=J.W7 (f:=12) (B:=600) (data:=D0) (r1:=[]) I (by decide) (by decide) VX U (by rw [mA]; decide) [1,1,1] (by decide) (by decide)
  have s:=s.ae [5,0]
  refine zc rfl (Ra (c:=[1,1,1]) hW s (bE _ _) A6) ?_
  rintro v h ⟨q4,rfl,s⟩
  refine zc rfl (Rk (n:=12) (base:=aC) (aC:=aC) (rs:=u) (dm:=[]) (fQ:=r2) (data:=D0) hT (by decide) (by decide) s Gs rfl (.inr Ym) z5 U z1 z3 z2 z4) ?_
  rintro v h (⟨h0,_⟩ | ⟨_,a5,q5,r5,rfl,s⟩)
  ·exact absurd z6 h0
  refine zk 10 rfl (zh rfl (ah rfl rfl aX) (by decide) ?_)
  refine zk 2 rfl (zh rfl (ah rfl rfl (C6 Db)) (rfl) (zk 7 rfl (zc rfl (xB hW s (by omega)) ?_)))
  rintro v h ⟨w2,rfl,s⟩
  have r_:=s.aG (k:=7) rfl (bE _ _)
  have ng:=s.aG (k:=12) rfl hX
  have H9:=s.aG (k:=0) rfl (bE _ _)
  refine zk 9 rfl (zo rfl (bV rfl (sP r_)) (zm rfl (zo rfl (bV rfl (sP ng)) (zt rfl (ah rfl rfl s_) (decide_eq_true rfl) (zk 2 rfl (zo rfl (bV rfl (sP H9)) (zm rfl (zo rfl (bV rfl (sP ng)) (zt rfl (ah rfl rfl s_) (decide_eq_true rfl) (zk 3 rfl (zt rfl (ah rfl rfl dR) (by simp; omega) ?_)))))))))))
  refine zk 4 rfl (zt rfl (ah rfl rfl cI) (by simp) ?_)
  refine zk 4 rfl (zc rfl (Uh (N:=12) (B:=600) (ε:=(Pl.fresh 12,(iG aC aC u,(eP (fE ε.2.2 [1,1,1]) aC u [] r2).2))) hW hN (by decide) (by decide) z7 (lP.alk hp hN I z7 z9) (s.ae [1,1,1,1,7])) ?_)
  rintro v h ⟨rfl,ε3,_,_,s⟩
  refine zk 3 rfl (WP.ret ⟨aa,_,rfl,?_⟩)
  rfl
end
set_option maxRecDepth 10000000 in
set_option maxHeartbeats 0 in
theorem Mv : isTrue (run CB 100000 11 [] ⟨0,.lf⟩)=true:=by kernel_rfl
noncomputable def toldAw : List V→H→Option (V×H)
 | [],h=>some (.bool true,h)
 | _,_=>none
theorem Rel.grown {c:Ctx}{σ:H}{w w':World}(h:Rel c σ w)(hs:w.heap.size≤w'.heap.size)(J:∀b,b<w.heap.size→w'.heap[b]?=w.heap[b]?)(ho:w'.os=w.os∧w'.output=w.output): Rel c σ w'∧dG c w c w':=by
 have rows:∀b,b<w.heap.size→rowSize w' b=rowSize w b:=fun b I=>by unfold rowSize; rw [J b I]
 refine ⟨⟨h.next,h.live,fun id hi=>gA (h.kF id hi) hs,fun id hi=>by rw [rows _ (h.kF id hi)]; exact h.zz id hi,h.inj,
  fun id o ho=>(h.obj id o ho).later (Ext.refl c) (h.live id o ho) (J _ (h.kF id (h.live id o ho))),h.one,h.fx⟩,
  ⟨Ext.refl c,hs,rows,fun b I _=>J b I,fun id U h2=>by omega,ho⟩⟩
theorem Pj : D6 Tryz.prog 11 toldAw:=by
 refine .inl ⟨⟨_,Tryz.func11,rfl,by decide⟩,fun args σ v iE J c w h hw => ?_⟩
 unfold toldAw at J
 split at J
 ·simp only [au,aP] at J
  obtain ⟨rfl,rfl⟩:=J
  have I:=Mv
  cases U:run CB 100000 11 [] ⟨0,.lf⟩ with
  | none=>rw [U] at I; cases I
  | some x =>
   obtain ⟨v,h'⟩:=x
   rw [U] at I
   have hv:v=.bool true:=by
    unfold isTrue at I
    split at I
    ·rename_i he; simp only [au,aP] at he; exact he.1
    ·cases I
   subst hv
   have:=Cn (C:=CB) g_ fB U (Rel.empty w) (fun x hx=>by cases hx)
   unfold fT at this ⊢
   refine Calls.mono this ?_
   rintro e w' ⟨c',rfl,_,_,hs⟩
   obtain ⟨g1,g2⟩:=h.grown hs.size (fun b hb=>hs.cG b hb fun id xT=>absurd xT (Ah _)) hs.sys
   exact ⟨c,rfl,aa,g1,g2⟩
 ·cases J
noncomputable def Dt (f:Nat): Option (List V→H→Option (V×H)) :=
 cond (Nat.beq f 11) (some toldAw) (cond (Nat.beq f 75) (some (nA Tryz.prog 75 Ew))
  (cond (Nat.beq f 76) (some (nA Tryz.prog 76 HG)) (C4 f)))
noncomputable abbrev CL : dx:=⟨Tryz.prog,Dt⟩
theorem Rw : W3 Dt:=by
 refine ⟨⟨⟨fun f I => ?_,rfl,rfl⟩,rfl,rfl⟩,toldAw,rfl,fun _=>rfl⟩
 have J:f≠11:=fun e=>by subst e; revert I; decide
 have U:f≠75:=fun e=>by subst e; revert I; decide
 have h3:f≠76:=fun e=>by subst e; revert I; decide
 simp only [Dt,cS J,cS U,cS h3,az]
 exact W.base.free f I
theorem Rx : gZ CL:=by
 intro f g I
 simp only [CL,Dt] at I ⊢
 by_cases J:f=11
 ·subst J
  rw [gX rfl,ag] at I
  simp only [au] at I
  subst I
  exact Pj
 ·rw [cS J,az] at I
  by_cases U:f=75
  ·subst U
   rw [gX rfl,ag] at I
   simp only [au] at I
   subst I
   exact zB ⟨_,y_,rfl,by decide⟩
  ·rw [cS U,az] at I
   by_cases h3:f=76
   ·subst h3
    rw [gX rfl,ag] at I
    simp only [au] at I
    subst I
    exact zB ⟨_,HF,rfl,by decide⟩
   ·rw [cS h3,az] at I
    exact fB f g I
def IE (c:Ctx): Prop:=∀id,id<c.N→c.X id=true
noncomputable def Ctx.fix (c:Ctx)(w:World)(b off:Nat): Ctx:=⟨fun i=>if i=c.N then (b,off) else c.ρ i,fun x=>if x=b then rowSize w b else c.Z x,c.N+1,fun i=>if i=c.N then true else c.X i⟩
theorem Rel.fix {c:Ctx}{σ:H}{w:World}(h:Rel c σ w)(hX:IE c){b off:Nat}{cs:List V}{C:Array Value}{e:TypeId}{fz:Nat×Nat}(hb:w.heap[b]?=some (.cells C e fz))(hl:off+cs.length≤C.size)
 (hc:∀j v,cs[j]?=some v→C[off+j]?=some (conc c v))(mO:∀v∈cs,wf c v∧storable v=true):
  Rel (c.fix w b off) (σ.new (.cells cs.length cs true)) w∧IE (c.fix w b off)∧Ext c (c.fix w b off)∧(c.fix w b off).ρ σ.next=(b,off)∧σ.next<(c.fix w b off).N:=by
 have hold:∀i,i<c.N→(c.fix w b off).ρ i=c.ρ i:=fun i hi=>by simp [Ctx.fix,jf hi]
 have Xd:∀i,i<c.N→(c.fix w b off).X i=c.X i:=fun i hi=>by simp [Ctx.fix,jf hi]
 have I:(c.fix w b off).ρ c.N=(b,off):=by simp [Ctx.fix]
 have hnX:(c.fix w b off).X c.N=true:=by simp [Ctx.fix]
 have hN:(c.fix w b off).N=c.N+1:=rfl
 have bS:b<w.heap.size:=(Array.getElem?_eq_some_iff.1 hb).1
 have U:IE (c.fix w b off):=fun i hi=>by
  by_cases J:i=c.N
  ·rw [J]; exact hnX
  ·rw [Xd i (by rw [hN] at hi; omega)]; exact hX i (by rw [hN] at hi; omega)
 have ex:Ext c (c.fix w b off):=⟨by rw [hN]; omega,hold,fun i hi=>by
  show (if (c.ρ i).1=b then rowSize w b else c.Z (c.ρ i).1)=_
  split
  ·rename_i he; rw [h.zz i hi,he]
  ·rfl,Xd⟩
 have key:∀i o,(σ.new (.cells cs.length cs true)).tr.get i=some o→(i=c.N∧o=.cells cs.length cs true)∨(i<c.N∧σ.tr.get i=some o):=by
  intro i o hi
  rw [fM,h.next] at hi
  by_cases J:i=c.N
  ·simp [J] at hi; exact .inl ⟨J,hi.symm⟩
  ·simp [J] at hi; exact .inr ⟨h.live i o hi,hi⟩
 refine ⟨⟨by simp [H.new,h.next,hN],fun i o hi => ?_,fun i hi => ?_,fun i hi => ?_,fun i j o o' hi hj he => ?_,fun i o hi => ?_,fun i sJ ni hi hx => ?_,fun i o hi hx => ?_⟩,U,ex,by rw [h.next]; exact I,by rw [h.next,hN]; omega⟩
 ·rw [hN]; rcases key i o hi with ⟨J,_⟩ | ⟨J,_⟩ <;> omega
 ·rw [hN] at hi
  by_cases J:i=c.N
  ·rw [J,I]; exact bS
  ·rw [hold i (by omega)]; exact h.kF i (by omega)
 ·rw [hN] at hi
  by_cases J:i=c.N
  ·rw [J,I]; show (if b=b then rowSize w b else c.Z b)=_; rw [aj rfl]
  ·rw [hold i (by omega)]
   show (if (c.ρ i).1=b then rowSize w b else c.Z (c.ρ i).1)=_
   split
   ·rename_i he; rw [he]
   ·exact h.zz i (by omega)
 ·have li:i<c.N+1:=by rcases key i o hi with ⟨J,_⟩ | ⟨J,_⟩ <;> omega
  have lj:j<c.N+1:=by rcases key j o' hj with ⟨J,_⟩ | ⟨J,_⟩ <;> omega
  exact .inr ⟨U i (by rw [hN]; exact li),U j (by rw [hN]; exact lj)⟩
 ·rcases key i o hi with ⟨rfl,rfl⟩ | ⟨a1,a2⟩
  ·refine ⟨rfl,fun v hv=>⟨(cz ex v (mO v hv).1).2,(mO v hv).2⟩,C,e,fz,by rw [I]; exact hb,by rw [I]; exact hl,fun j v hj => ?_,aa⟩
   rw [I,(cz ex v (mO v (br hj)).1).1]
   exact hc j v hj
  ·exact (h.obj i o a2).later ex a1 rfl
 ·have li:i<c.N+1:=by rcases key i _ hi with ⟨J,_⟩ | ⟨J,_⟩ <;> omega
  rw [U i (by rw [hN]; exact li)] at hx; cases hx
 ·rcases key i o hi with ⟨_,rfl⟩ | ⟨a1,a2⟩
  ·exact ⟨_,_,rfl⟩
  ·rw [Xd i a1] at hx; exact h.fx i o a2 hx
theorem JI {c U:Ctx}{w w':World}(hX:IE c)(h:dG c w U w'): w.keptBut w' (fun _=>False)∧w.heap.size≤w'.heap.size∧∀b,b<w.heap.size→w'.heap[b]?=w.heap[b]?:=by
 have J:∀b,b<w.heap.size→w'.heap[b]?=w.heap[b]?:=fun b hb=>h.cG b hb fun id I _=>hX id I
 refine ⟨⟨h.sys.1,h.sys.2,fun i hi => ?_⟩,h.size,J⟩
 rw [J i hi]
 split <;> simp_all
end Go.Proofs.YtconhghphklfjaaGreat.Am
namespace Go.Proofs.YtconhghphklfjaaGreat.Am
open Go Go.ChangeShapes
def z_ (W:World)(S:List ax)(c:Ctx)(σ:H): Prop:=Rel c σ W∧IE c∧Sat σ S
theorem z_.zero (W:World): ∃c σ,z_ W [] c σ:=by
 refine ⟨_,_,Rel.empty W,fun id h=>absurd h (Ah _),⟨fun id o h=>by simp [T.jT] at h,fun _=>none,fun _=>none,fun _ _ h=>(by cases h),fun _ _ h=>(by cases h),fun _=>.inl rfl,aa⟩⟩
theorem z_.sat {W:World}{S S':List ax}{c:Ctx}{σ:H}(h:z_ W S c σ)(hs:∀h,Sat h S→Sat h S'): z_ W S' c σ:=⟨h.1,h.2.1,hs σ h.2.2⟩
def nH {α:Type}(W:World)(cs:List Value)(E:List V→α→ax)(φ:α→Prop): Prop :=
 ∀(c:Ctx) (σ:H) (S:List ax),z_ W S c σ→∃(I:Ctx) (J:H) (vs:List V) (x:α),z_ W (E vs x::S) I J∧Ext c I∧vs.map (conc I)=cs∧(∀v∈vs,wf I v∧storable v=true)∧φ x
theorem nH.rows {W:World}{α:Type}{E:List V→α→ax}{A:List V→List α→ax}{φ:α→Prop}(hE:∀vs x,aE (E vs x))(hA:∀l m,aE (A l m))(wS:∀m r,(A [] []).p m r)(U:∀vs x l m a b,(E vs x).p a b→(A l m).p a b→(A (vs++l) (x::m)).p a b):
  ∀(I:List (List Value)),(∀cs∈I,nH W cs E φ)→nH W I.flatten A (fun xs=>xs.length=I.length∧∀x∈xs,φ x):=by
 intro I
 induction I with
 | nil =>
  intro _ c σ S h
  exact ⟨c,σ,[],[],h.sat fun h s=>(s.gD (φ:=True) aa).fP fun m r _=>wS m r,Ext.refl c,rfl,fun v J=>(by cases J),rfl,fun x hx=>(by cases hx)⟩
 | cons cs I ih =>
  intro hc c σ S h
  obtain ⟨c1,Ry,l,m,h1,e1,m1,w1,n1,p1⟩:=ih (fun x hx=>hc x (bl _ hx)) c σ S h
  obtain ⟨c2,σ2,vs,x,h2,e2,m2,w2,p2⟩:=hc cs bn c1 Ry _ h1
  obtain ⟨q1,q2⟩:=Gg e2 fun v J=>(w1 v J).1
  refine ⟨c2,σ2,vs++l,x::m,h2.sat fun h s=>s.two (hE _ _) (hA _ _) fun a b k1 k2=>U _ _ _ _ _ _ k1 k2,e1.trans e2,?_,fun v J => ?_,by simp [n1],fun y hy => ?_⟩
  ·rw [Ai,m2,q1,m1,List.flatten_cons]
  ·rcases List.mem_append.1 J with J | J
   ·exact w2 v J
   ·exact ⟨q2 v J,(w1 v J).2⟩
  ·rcases List.mem_cons.1 hy with rfl | hy
   ·exact p2
   ·exact p1 y hy
def Du {α:Type}(k:Nat)(A:List V→List α→ax)(vs:List V)(x:List α): ax:=.xs fun v:V=>.xs fun cs:List V=>.an (.pu (vs=[v])) (.an (ja k v cs) (A cs x))
theorem aE.Du {α:Type}{k:Nat}{A:List V→List α→ax}(I:∀l m,aE (A l m))(vs:List V)(x:List α): aE (Am.Du k A vs x):=aE.xs fun _=>aE.xs fun _=>aE.an (aE.pu _) (aE.an (aE.ja _ _ _) (I _ _))
theorem nH.aa1 {W:World}{α:Type}{k:Nat}{A:List V→List α→ax}{φ:List α→Prop}(I:∀m r,(A [] []).p m r)(J:φ []): nH W [.slice none 0 0] (Du k A) φ:=fun c σ S h =>
 ⟨c,σ,[.bz],[],h.sat fun h s=>(s.gD (φ:=True) aa).fP fun m r _=>⟨.bz,[],rfl,⟨none,.inl rfl,rfl⟩,I m r⟩,Ext.refl c,by simp [conc],fun v U=>by rw [List.mem_singleton.1 U]; exact ⟨aa,rfl⟩,J⟩
theorem nH.Xe {W:World}{α:Type}{k:Nat}{A:List V→List α→ax}{φ:List α→Prop}{a:Addr}(I:∀m r,(A [] []).p m r)(J:φ []): nH W [.slice (some a) 0 0] (Du k A) φ:=fun c σ S h =>
 ⟨c,σ,[.sle a],[],h.sat fun h s=>(s.gD (φ:=True) aa).fP fun m r _=>⟨.sle a,[],rfl,⟨none,.inr ⟨a,rfl⟩,rfl⟩,I m r⟩,Ext.refl c,by simp [conc],fun v U=>by rw [List.mem_singleton.1 U]; exact ⟨aa,rfl⟩,J⟩
theorem nH.aa2 {W:World}{α:Type}{k b off len cap:Nat}{A:List V→List α→ax}{φ:List α→Prop}{cs:List Value}{C:Array Value}{e:TypeId}{fz:Nat×Nat}(hb:W.heap[b]?=some (.cells C e fz))(hl:off+cs.length≤C.size)(hn:cs.length=len*k)(J:len≤cap)
 (hc:∀j v,cs[j]?=some v→C[off+j]?=some v)(hA:∀l m,aE (A l m))(ho:nH W cs A φ): nH W [.slice (some ⟨b,off,none⟩) len cap] (Du k A) φ:=by
 intro c σ S h
 obtain ⟨c1,I,vs,x,U,e1,m1,w1,p1⟩:=ho c σ S h
 have hlen:vs.length=cs.length:=by rw [←m1,en]
 obtain ⟨g1,g2,g3,g4,g5⟩:=U.1.fix U.2.1 hb (cs:=vs) (off:=off) (by omega) (fun j v hv=>hc j _ (by rw [←m1,oZ,hv]; rfl)) w1
 refine ⟨_,_,[.sl I.next 0 len (.exact cap)],x,⟨g1,g2,?_⟩,e1.trans g3,?_,fun v hv => ?_,p1⟩
 ·have s1:Sat (I.new (.cells vs.length vs true)) (.ro I.next (.cells vs.length vs true)::A vs x::S):=(U.2.2.new _).freeze
  refine s1.two (aE.ro _ _) (hA _ _) fun m r k1 k2=>⟨_,vs,rfl,⟨some (I.next,len,cap),k1,rfl,by rw [hlen,hn]⟩,k2⟩
 ·simp [conc,g4]
 ·rw [List.mem_singleton.1 hv]
  exact ⟨⟨g5,J⟩,rfl⟩
def SS (vs:List V)(l:List Nat): ax:=.xs fun v:V=>.an (.pu (vs=[v])) (.cm v l)
theorem aE.SS (vs:List V)(l:List Nat): aE (Am.SS vs l):=aE.xs fun _=>aE.an (aE.pu _) (aE.cm _ _)
theorem IF {W:World}{a:Addr}{v:Value}(h:W.cell? a=some v): ∃b off,a=⟨b,off,none⟩∧∃C e I,W.heap[b]?=some (.cells C e I)∧C[off]?=some v:=by
 obtain ⟨b,off,spot⟩:=a
 have hs:spot=none:=World.cell?_spot h
 subst hs
 refine ⟨b,off,rfl,?_⟩
 unfold World.cell? at h
 split at h
 ·rename_i C e I J
  exact ⟨C,e,I,J,by simpa using h⟩
 ·cases h
end Go.Proofs.YtconhghphklfjaaGreat.Am
namespace Go.Proofs.YtconhghphklfjaaGreat.Am
open Go Go.ChangeShapes Go.WideShapes Go.ChangeAt Go.RowKit
theorem Rz {H:Type}(d:DataW H): 1≤Rows.uptoBulk d:=by
 cases d with
 | lit l=>cases l <;> simp [Rows.uptoBulk]
 | nil=>simp [Rows.uptoBulk]
 | ptr d=>simp [Rows.uptoBulk]
 | slice elems spare=>simp [Rows.uptoBulk]
 | agg parts=>simp [Rows.uptoBulk]
 | iface t d=>simp [Rows.uptoBulk]
 | map entries=>simp [Rows.uptoBulk]
 | held h=>simp [Rows.uptoBulk]
theorem p_ {H:Type}{d:DataW H}: ∀ {l:List (DataW H)},d∈l→Rows.uptoBulk d≤Rows.uptoBulkAll l:=by
 intro l
 induction l with
 | nil=>intro h; cases h
 | cons x r I =>
  intro h
  simp only [Rows.uptoBulkAll]
  rcases List.mem_cons.1 h with e | e
  ·subst e; omega
  ·have:=I e; omega
theorem IG {H:Type}: ∀(l:List (DataW H)),l.length≤Rows.uptoBulkAll l:=by
 intro l
 induction l with
 | nil=>exact eU _
 | cons x r I=>have:=Rz x; simp only [Rows.uptoBulkAll,bj]; omega
theorem Dv {H:Type}(a b:List (DataW H)): Rows.uptoBulk (.slice a b)=Rows.uptoBulkAll a+Rows.uptoBulkAll b+1:=by simp only [Rows.uptoBulk]
theorem II {H:Type}(a:List (DataW H)): Rows.uptoBulk (.agg a)=Rows.uptoBulkAll a+1:=by simp only [Rows.uptoBulk]
theorem KQ {W:World}{b o:Nat}{C:Array Value}{e:TypeId}{I:Nat×Nat}(J:W.heap[b]?=some (.cells C e I)): W.cell? ⟨b,o,none⟩=C[o]?:=by
 unfold World.cell?
 simp only [J]
 rfl
section
variable {H':Type} {enc:TypeId×Value→H'} {W:World} {fuel B:Nat} {cs:List Value} {x:DataW H'×List MemPlace}
theorem EJ (h:DataW.trod enc Tryz.prog W 0 (fun _=>true) true fuel 32 cs=some x)(hB:Rows.uptoBulk x.1≤B): nH W cs SS (fun l=>l.length≤B):=by
 rcases open_ints aS Tryz.underlying5 (by kernel_rfl) h with ⟨rfl,rfl⟩ | ⟨a,len,cap,zs,rfl,_,OM,_,hz,rfl,I,mO⟩
 ·exact fun c σ S h=>⟨c,σ,[.bz],[],h.sat fun h s=>s.rR.fP fun m r k=>⟨.bz,rfl,k⟩,Ext.refl c,by simp [conc],fun v J=>by rw [List.mem_singleton.1 J]; exact ⟨aa,rfl⟩,eU _⟩
 ·rw [aj rfl] at hz
  by_cases h0:cap=0
  ·have:len=0:=by omega
   subst this
   subst h0
   exact fun c σ S h=>⟨c,σ,[.sle a],[],h.sat fun h s=>(s.gD (φ:=True) aa).fP fun m r k=>⟨.sle a,rfl,by simp,.inl ⟨.inr ⟨a,rfl⟩,rfl⟩⟩,Ext.refl c,by simp [conc],fun v J=>by rw [List.mem_singleton.1 J]; exact ⟨aa,rfl⟩,eU _⟩
  ·have g0:=I 0 (by omega)
   obtain ⟨b,off,spot⟩:=a
   have hs:spot=none:=by simpa [Addr.add] using World.cell?_spot g0
   subst hs
   have I:∀i,i<zs.length→W.cell? ⟨b,off+i,none⟩=some (.int .u8 (zs.getD i 0)):=fun i hi=>by have:=I i hi; rwa [add_plain] at this
   obtain ⟨b',off',he,C,e,fz,hb,SM⟩:=IF (I 0 (by omega))
   simp only [Addr.mk.injEq,tP] at he
   obtain ⟨rfl,rfl⟩:=he
   have hC:∀i,i<zs.length→C[off+i]?=some (.int .u8 (zs.getD i 0)):=fun i hi=>by rw [←KQ hb]; exact I i hi
   have aa3:off<C.size:=by
    have:=(Array.getElem?_eq_some_iff.1 SM).1
    omega
   have ZN:∀z∈zs,0≤z∧z<256:=fun z hz=>by
    have:=mO z hz
    simp only [Lit.wf,aY,ej] at this
    have e1:IntKind.min .u8=0:=rfl
    have e2:IntKind.max .u8=255:=rfl
    omega
   have U:((zs.take len).map Int.toNat).length=len:=by rw [en,dI]; omega
   have EO:(ofBytes ((zs.take len).map Int.toNat)).length=len:=by rw [dJ,U]
   have aa4:∀y∈(zs.take len).map Int.toNat,y<256:=fun y hy=>by
    obtain ⟨z,Gv,rfl⟩:=List.mem_map.1 hy
    have:=ZN z (gz Gv)
    omega
   intro c σ S h
   have iH:off+(ofBytes ((zs.take len).map Int.toNat)).length≤C.size:=by
    rw [EO]
    by_cases xS:len=0
    ·omega
    ·have:=(Array.getElem?_eq_some_iff.1 (hC (len-1) (by omega))).1
     omega
   have aa5:∀j v,(ofBytes ((zs.take len).map Int.toNat))[j]?=some v→C[off+j]?=some (conc c v):=fun j v J=>by
    have hj:=(List.getElem?_eq_some_iff.1 J).1
    rw [EO] at hj
    rw [hC j (by omega)]
    simp only [ofBytes,vR,oZ,lU,aj hj] at J
    have Hj:zs[j]?=some (zs[j]'(by omega)):=bh _
    rw [Hj] at J
    have J:=bw J
    subst J
    have hb:=ZN (zs[j]'(by omega)) (o8 _)
    have hd:zs.getD j 0=zs[j]'(by omega):=by rw [ki,Hj]; rfl
    rw [hd]
    simp only [Function.comp,conc]
    congr 2
    omega
   obtain ⟨g1,g2,g3,g4,g5⟩:=h.1.fix h.2.1 hb (off:=off) iH aa5 (fun v J=>by obtain ⟨n,_,rfl⟩:=List.mem_map.1 J; exact ⟨aa,rfl⟩)
   refine ⟨_,_,[.sl σ.next 0 len (.exact cap)],(zs.take len).map Int.toNat,⟨g1,g2,?_⟩,g3,?_,fun v J => ?_,?_⟩
   ·have s1:=(h.2.2.new (.cells (ofBytes ((zs.take len).map Int.toNat)).length (ofBytes ((zs.take len).map Int.toNat)) true)).freeze
    refine s1.fP fun m r k=>⟨_,rfl,aa4,.inr ⟨σ.next,0,.exact cap,_,_,true,by rw [U],k,rfl,by rw [EO,U]; omega,?_,?_⟩⟩
    ·rw [dS]; exact fL (by rw [EO,U]; exact aK _)
    ·show _≤cap; rw [U]; exact OM
   ·simp [conc,g4]
   ·rw [List.mem_singleton.1 J]
    exact ⟨⟨g5,OM⟩,rfl⟩
   ·rw [Dv] at hB
    have h1:=IG (lits (H:=H') .u8 (zs.take len))
    have h2:(lits (H:=H') .u8 (zs.take len)).length=len:=by simp [lits]; omega
    rw [U]; omega
theorem FH {α:Type}{t e:TypeId}{k:Nat}{E:List V→α→ax}{A:List V→List α→ax}{φ:α→Prop}(ht:Tryz.prog.underlying t=some (.slice e))(hk:Tryz.prog.cellsOf e=k)(h1:1≤k)
 (hE:∀vs x,aE (E vs x))(hA:∀l m,aE (A l m))(J:∀m r,(A [] []).p m r)(K7:∀vs x l m a b,(E vs x).p a b→(A l m).p a b→(A (vs++l) (x::m)).p a b)
 (J0:∀n cs (y:DataW H'×List MemPlace),DataW.trod enc Tryz.prog W 0 (fun _=>true) true n e cs=some y→Rows.uptoBulk y.1≤B→nH W cs E φ)
 (h:DataW.trod enc Tryz.prog W 0 (fun _=>true) true fuel t cs=some x)(hB:Rows.uptoBulk x.1≤B): nH W cs (Du k A) (fun xs=>xs.length≤B∧∀x∈xs,φ x):=by
 rcases DataW.trod_slice ht h with ⟨rfl,rfl⟩ | ⟨a,len,cap,elems,rest,n,_,rfl,rfl,_,OM,_,hlen,U,Ox,_⟩
 ·exact nH.aa1 J ⟨eU _,fun x hx=>(by cases hx)⟩
 ·obtain ⟨Fk,SU⟩:=Ox rfl
  rw [hk] at U SU
  rw [Dv] at hB
  by_cases h0:cap=0
  ·have:len=0:=by omega
   subst this
   subst h0
   exact nH.Xe J ⟨eU _,fun x hx=>(by cases hx)⟩
  ·-- each element's cells
   have each:∀i,i<cap→∃cs,W.cells? 0 (a.add (i*k)) k=some cs:=fun i hi=>by
    by_cases Bd:i<len
    ·have h2:=U i Bd
     rw [bh (by omega)] at h2
     obtain ⟨cs,h3,_⟩:=Option.bind_eq_some_iff.1 h2
     exact ⟨cs,h3⟩
    ·have h2:=SU (i-len) (by omega)
     rw [bh (by omega),show len+(i-len)=i by omega] at h2
     obtain ⟨cs,h3,_⟩:=Option.bind_eq_some_iff.1 h2
     exact ⟨cs,h3⟩
   obtain ⟨cs0,aa6⟩:=each 0 (by omega)
   obtain ⟨_,xS,SM⟩:=World.cells?_some aa6
   have g0:=SM 0 (by omega)
   obtain ⟨v0,hv0⟩:∃v,cs0[0]?=some v:=⟨_,bh (by omega)⟩
   rw [hv0] at g0
   obtain ⟨b,off,spot⟩:=a
   have hs:spot=none:=by simpa [Addr.add] using World.cell?_spot g0
   subst hs
   simp only [add_plain,vS,iS] at g0
   obtain ⟨b',off',he,C,ty,fz,hb,xU⟩:=IF g0
   simp only [Addr.mk.injEq,tP] at he
   obtain ⟨rfl,rfl⟩:=he
   have aa3:off<C.size:=(Array.getElem?_eq_some_iff.1 xU).1
   -- the rows
   have rows:∀i,i<len→∃cs,cs.length=k∧nH W cs E φ∧∀q v,cs[q]?=some v→C[off+i*k+q]?=some v:=fun i hi=>by
    have h2:=U i hi
    rw [bh (by omega)] at h2
    obtain ⟨cs,h3,h4⟩:=Option.bind_eq_some_iff.1 h2
    obtain ⟨_,hl,hc⟩:=World.cells?_some h3
    refine ⟨cs,hl,J0 n cs _ h4 ?_,fun q v hq => ?_⟩
    ·have:=p_ (l:=elems.map (·.1)) (jd (o8 (l:=elems) (n:=i) (by omega)))
     omega
    ·have hqk:q<k:=by rw [←hl]; exact (List.getElem?_eq_some_iff.1 hq).1
     have:=hc q hqk
     rw [add_plain,add_plain,KQ hb,hq] at this
     exact this
   have build:∀m,m≤len→∃I:List (List Value),I.length=m∧(∀cs∈I,nH W cs E φ)∧I.flatten.length=m*k∧∀j v,I.flatten[j]?=some v→C[off+j]?=some v:=by
    intro m
    induction m with
    | zero=>intro _; exact ⟨[],rfl,fun cs h=>(by cases h),by simp,fun j v h=>by simp at h⟩
    | succ m ih =>
     intro hm
     obtain ⟨I,i1,i2,i3,i4⟩:=ih (by omega)
     obtain ⟨cs,r1,r2,r3⟩:=rows m (by omega)
     refine ⟨I++[cs],by simp [i1],fun y hy => ?_,by simp [i3,r1,iz],fun j v hj => ?_⟩
     ·rcases List.mem_append.1 hy with hy | hy
      ·exact i2 y hy
      ·rw [List.mem_singleton.1 hy]; exact r2
     ·rw [List.flatten_append,List.flatten_singleton] at hj
      by_cases bS:j<m*k
      ·rw [kj (by rw [i3]; exact bS)] at hj
       exact i4 j v hj
      ·rw [nI (by rw [i3]; omega),i3] at hj
       have:=r3 _ v hj
       rwa [show off+m*k+(j-m*k)=off+j by omega] at this
   obtain ⟨I,b1,b2,b3,b4⟩:=build len (aK _)
   have iH:off+I.flatten.length≤C.size:=by
    rw [b3]
    by_cases xS:len*k=0
    ·omega
    ·obtain ⟨v,hv⟩:∃v,I.flatten[len*k-1]?=some v:=⟨_,bh (by rw [b3]; omega)⟩
     have:=(Array.getElem?_eq_some_iff.1 (b4 _ v hv)).1
     omega
   have main:=nH.aa2 (k:=k) (len:=len) (cap:=cap) hb iH b3 OM b4 hA (nH.rows hE hA J K7 I b2)
   intro c σ S h
   obtain ⟨c1,Ry,vs,x,q1,q2,q3,q4,q5,q6⟩:=main c σ S h
   refine ⟨c1,Ry,vs,x,q1,q2,q3,q4,?_,q6⟩
   have:=IG (elems.map (·.1))
   rw [en] at this
   omega
end
end Go.Proofs.YtconhghphklfjaaGreat.Am
