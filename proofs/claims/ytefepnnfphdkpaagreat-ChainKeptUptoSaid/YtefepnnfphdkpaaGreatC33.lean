/- ChainKept: a part of its proof; conditions: its statement's. -/
import Derived.Test.YtefepnnfphdkpaaGreatC32
set_option linter.defProp false
namespace Go.Proofs.YtefepnnfphdkpaaGreat.Am
open Go
def Em:=@Tryz.func50
theorem Tl {P:Program}{E:List (Nat×V)}{h:H}{a b c t t' I:Nat}{p q r u v w:V}(J:look E a=some p)(d1:loadV P h t p=some u)(h2:look E b=some q)(d2:loadV P h t' q=some v)(h3:look E c=some r)(d3:loadV P h I r=some w):
  jN P E h [.cell a t,.cell b t',.cell c I]=some (.bh [u,v,w]):=by simp only [jN,mapO,resE,J,d1,h2,d2,h3,d3]
structure En (v:V): Prop where
 cell:v.cells=[v]
 st:storable v=true
 bq:v.beq v=true
section
variable {told:cN} {h:H} {S:List aq} {X Y:aq} {N B n id p2 p3 p4 p5 p6:Nat} {v x y rv pv bv cv:V} {b l c R M:List Nat} {ps:List Nat} {cs:List (List Nat)} {A:aF→aq} {pg:aF→Int→List Nat} {ε:aF} {env:Env}
def YQ (id p4 p5:Nat)(env:Env)(I J:List Nat)(S:List aq)(v:V)(h:H): Prop:=v=.bool true∧∃pv bv,Sat h (pt id (.loop false 36 env [12,13] oP oQ)::pt p4 (.cells 1 [pv] false)::pt p5 (.cells 1 [bv] false)::.arr 1 pv (bE I)::aR bv J::S)
theorem MP (I:W told)(hv:En rv)(s:Sat h S): Call ⟨Tryz.prog,told⟩ 108 [rv,.int .i64 (n:Int)] h fun v h'=>∃p2 p3,v=.fn (.func 159) [] [.ptr p3 0,.ptr p2 0]∧Sat h' (pt p3 (.cells 1 [.int .i64 (n:Int)] false)::pt p2 (.cells 1 [rv] false)::S):=by
 refine Call.of_wp (I.free _ rfl) Tryz.func108 rfl rfl (zg rfl (az.cG s rfl rfl rfl (fO rfl (by rw [hv.cell]; simp only [ij,iR,hv.st]; rfl)) ?_))
 intro p2 h s
 rw [hv.cell] at s
 have s:Sat h (pt p2 (.cells 1 [rv] false)::_):=s
 refine az.cG s rfl rfl rfl (fO rfl rfl) (fun p3 h s => ?_)
 exact zk 4 rfl (zo rfl (Hh rfl rfl) (zk 2 rfl (WP.ret ⟨aa,_,rfl,p2,_,rfl,s⟩)))
noncomputable def XP : Code:=eD [1,1,0,0] ((Tryz.f159.body).getD .skip)
theorem Im (hT:W told)(hR:mT told N B rv A pg)(hN:N≤65536)(m6:gZ env [(4,.ptr p4 0),(5,.ptr p5 0)]): ∀(ps:List Nat) (p:Nat) (cs:List (List Nat)) (left:Nat) (dp db:List Nat) (pv bv:V) (ε:aF) (h:H) (E:List (Nat×V)) (Q:Ex→List (Nat×V)→H→Prop),EI N B ε→kM (pg ε) (p::ps) cs→(∀x∈p::ps,x<N)→ps.length+1≤left→left≤65536→dp.length+ps.length≤2000→db.length+(ps.length+1)*482≤1048576 →
  Sat h (pt id (.loop false 36 env [12,13] oP oQ)::pt p4 (.cells 1 [pv] false)::pt p5 (.cells 1 [bv] false)::.arr 1 pv (bE dp)::aR bv db::A ε::pt p2 (.cells 1 [rv] false)::S)→Has E [(0,.uD id),(2,.ptr p2 0),(4,.int .i64 (p:Int)),(5,.int .i64 (left:Int))] →
  (∀I J ε' E' h',EI N B ε'→Sm N ε ε'→Sat h' (pt id (.loop false 36 env [12,13] oP oQ)::pt p4 (.cells 1 [I] false)::pt p5 (.cells 1 [J] false)::.arr 1 I (bE (dp++p::ps))::aR J (db++flatL cs)::A ε'::pt p2 (.cells 1 [rv] false)::S)→Q .ret E' h')→WP ⟨Tryz.prog,told⟩ 74 (.loop XP) E h Q:=by
 intro ps
 induction ps with
 | nil =>
  intro p cs left dp db pv bv ε h E Q fq hc a_ hle VD NV Da s hE hq
  cases cs with
  | nil=>exact hc.elim
  | cons c cs =>
   obtain ⟨hp,oW⟩:=hc
   have js:cs=[]:=jO oW.len.symm
   subst js
   have XQ:=a_ p cz
   have CF:=R3 hp
   have hl:=hp.len
   obtain ⟨ty,u0,f,rfl,hm,gh⟩:=hR.iface
   refine WP.loop (WP.has hE (zK 4 rfl (zt rfl (ag rfl rfl h_) (by simp; omega) ?_)))
   refine zk 4 rfl (WP.block (zg rfl (zl rfl (s.ld (k:=6) rfl Rc rfl) (zm rfl (az.any rfl rfl rfl (OpR.invoke rfl rfl rfl hm rfl (gh (n:=(p:Int)) fq (by omega) (by omega) (s.ae [5]))) ?_)))))
   rintro v h ⟨u,ε',rfl,rN,hs,s⟩
   refine zk 10 rfl (zh rfl (ag rfl rfl aJ) (rfl) (zk 6 rfl (zc rfl (wU hT s (aX _ _) (by omega)) ?_)))
   rintro v h ⟨s,(⟨hg,rfl⟩ | ⟨hg,rfl⟩)⟩
   ·rw [show (pg ε p).getD 12 0=203 from hp.kind,show cP (pg ε p) 18 4=0 from hp.link,show cP (pg ε p) 22 4=0+1 from hp.extra]
    refine zk 15 rfl (zc rfl (yc (i:=0) hT s (aX _ _) hp rfl) ?_)
    rintro v h ⟨u2,rfl,s⟩
    have yB:=(s.buf (k:=0) rfl).view.cells
    refine zk 10 rfl (zh rfl (ag rfl rfl aJ) (by decide) ?_)
    refine zk 2 rfl (zh rfl (ag rfl rfl aJ) (by decide) ?_)
    refine zk 3 rfl (zh rfl (ag rfl rfl aJ) (by decide) ?_)
    refine zk 4 rfl (zh rfl (ag rfl rfl h_) (by simp; omega) ?_)
    have s:=s.ae [3,3,3,3,3,0]
    dsimp only [aV,bringA,getA] at s
    refine zk 10 rfl (zo rfl (cW (r:=.agg [.int .i64 (p:Int),u2]) rfl (by rw [Nu]; simp only [fillV,yB.1]; rfl)) ?_)
    have uS:=El (told:=told) (E:=[(13,.int .i64 0),(12,.agg [.int .i64 (p:Int),u2]),(4,.ptr p4 0),(5,.ptr p5 0)]) (Q:=YQ id p4 p5 env (dp++[p]) (db++c) (aR u (pg ε p)::A ε'::pt p2 (.cells 1 [.iface ty u0] false)::S)) hT (by omega) (by omega) CF s ⟨rfl,rfl,rfl,rfl,aa⟩ (fun I J h' s'=>⟨rfl,I,J,s'⟩)
    refine az.any rfl rfl rfl (OpR.yield (R:=YQ id p4 p5 env (dp++[p]) (db++c) (aR u (pg ε p)::A ε'::pt p2 (.cells 1 [.iface ty u0] false)::S)) rfl rfl rfl rfl (s.row (k:=0) rfl) rfl ((m6.set _ _).set _ _) uS) ?_
    rintro v h ⟨rfl,I,J,s⟩
    refine zo rfl (fo rfl rfl) (zk 2 rfl (zt rfl (ag rfl rfl xO) (by decide) ?_))
    refine zk 3 rfl (WP.ret ?_)
    have s:=s.ae [0,0,0,0,0,1,1]
    dsimp only [bringA,getA,aV] at s
    refine hq I J ε' _ _ rN hs ?_
    have e:flatL [c]=c:=by simp [flatL]
    rw [e]
    exact s.del 7
   ·rw [hp.good] at hg; cases hg
 | cons q ps ih =>
  intro p cs left dp db pv bv ε h E Q fq hc a_ hle VD NV Da s hE hq
  cases cs with
  | nil=>exact hc.elim
  | cons c cs =>
   obtain ⟨hp,oW⟩:=hc
   have XQ:=a_ p cz
   have CF:=R3 hp
   have hl:=hp.len
   simp only [aO] at hle NV Da
   obtain ⟨ty,u0,f,rfl,hm,gh⟩:=hR.iface
   refine WP.loop (WP.has hE (zK 4 rfl (zt rfl (ag rfl rfl h_) (by simp; omega) ?_)))
   refine zk 4 rfl (WP.block (zg rfl (zl rfl (s.ld (k:=6) rfl Rc rfl) (zm rfl (az.any rfl rfl rfl (OpR.invoke rfl rfl rfl hm rfl (gh (n:=(p:Int)) fq (by omega) (by omega) (s.ae [5]))) ?_)))))
   rintro v h ⟨u,ε',rfl,rN,hs,s⟩
   have Zg:=a_ q (cj _ cz)
   refine zk 10 rfl (zh rfl (ag rfl rfl aJ) (rfl) (zk 6 rfl (zc rfl (wU hT s (aX _ _) (by omega)) ?_)))
   rintro v h ⟨s,(⟨hg,rfl⟩ | ⟨hg,rfl⟩)⟩
   ·rw [show (pg ε p).getD 12 0=203 from hp.kind,show cP (pg ε p) 18 4=q from hp.link,show cP (pg ε p) 22 4=ps.length+1+1 from hp.extra]
    refine zk 15 rfl (zc rfl (yc (i:=0) hT s (aX _ _) hp rfl) ?_)
    rintro v h ⟨u2,rfl,s⟩
    have yB:=(s.buf (k:=0) rfl).view.cells
    refine zk 10 rfl (zh rfl (ag rfl rfl aJ) (by decide) ?_)
    refine zk 2 rfl (zh rfl (ag rfl rfl aJ) (by decide) ?_)
    refine zk 3 rfl (zh rfl (ag rfl rfl aJ) (by decide) ?_)
    refine zk 4 rfl (zh rfl (ag rfl rfl h_) (by simp; omega) ?_)
    have s:=s.ae [3,3,3,3,3,0]
    dsimp only [aV,bringA,getA] at s
    refine zk 10 rfl (zo rfl (cW (r:=.agg [.int .i64 (p:Int),u2]) rfl (by rw [Nu]; simp only [fillV,yB.1]; rfl)) ?_)
    have uS:=El (told:=told) (E:=[(13,.int .i64 0),(12,.agg [.int .i64 (p:Int),u2]),(4,.ptr p4 0),(5,.ptr p5 0)]) (Q:=YQ id p4 p5 env (dp++[p]) (db++c) (aR u (pg ε p)::A ε'::pt p2 (.cells 1 [.iface ty u0] false)::S)) hT (by omega) (by omega) CF s ⟨rfl,rfl,rfl,rfl,aa⟩ (fun I J h' s'=>⟨rfl,I,J,s'⟩)
    refine az.any rfl rfl rfl (OpR.yield (R:=YQ id p4 p5 env (dp++[p]) (db++c) (aR u (pg ε p)::A ε'::pt p2 (.cells 1 [.iface ty u0] false)::S)) rfl rfl rfl rfl (s.row (k:=0) rfl) rfl ((m6.set _ _).set _ _) uS) ?_
    rintro v h ⟨rfl,I,J,s⟩
    refine zo rfl (fo rfl rfl) (zk 2 rfl (zh rfl (ag rfl rfl xO) (by simp; omega) ?_))
    refine zp rfl (zv (zj rfl (WP.skip (zr rfl (zk 4 rfl (zv (zr rfl (zm rfl (zo rfl (ag (r:=.int .i64 ((ps.length+1:Nat):Int)) rfl rfl (by rw [show (((ps.length+1:Nat)):Int)=((ps.length+1+1:Nat):Int)-1 by omega]; exact jF (aA (by omega) (by omega)))) ?_)))))))))
    refine za rfl (zv ?_)
    have s:=s.ae [0,0,0,0,0,1,1]
    have e1:dp++p::q::ps=(dp++[p])++q::ps:=by simp
    have e2:db++flatL (c::cs)=(db++c)++flatL cs:=by simp [flatL]
    refine ih q cs (ps.length+1) (dp++[p]) (db++c) I J ε' _ _ Q rN (oW.of fun x _=>hR.same hs x) (fun x hx=>a_ x (cj _ hx)) (aD _) (by omega) (by rw [bD,aO,bB]; omega) (by rw [bD]; omega) (s.del 7) ⟨rfl,rfl,rfl,rfl,aa⟩ (fun R4 XR kP E2 h2 g1 g2 g3=>hq R4 XR kP E2 h2 g1 (hs.trans g2) ?_)
    rw [e1,e2]; exact g3
   ·rw [hp.good] at hg; cases hg
end
structure WC (told:cN): Prop where
 w:W told
 fmt:told 31=some (lp Tryz.prog 31 (Eg 31))
 all:told 50=some (lp Tryz.prog 50 (Il 50))
section
variable {told:cN} {h:H} {S:List aq} {X Y:aq} {N B n id p2 p3 p4 p5 p6:Nat} {v x y rv pv bv cv:V} {b l c R M:List Nat} {ps:List Nat} {cs:List (List Nat)} {A:aF→aq} {pg:aF→Int→List Nat} {ε:aF} {env:Env}
theorem KQ (hT:W told)(hR:mT told N B rv A pg)(hN:N≤65536)(I:gZ env [(4,.ptr p4 0),(5,.ptr p5 0)]){p:Nat}(J:EI N B ε)(hc:kM (pg ε) (p::ps) cs)(a_:∀x∈p::ps,x<N)(hl:ps.length≤1000)
 (s:Sat h (pt id (.loop false 36 env [12,13] oP oQ)::pt p4 (.cells 1 [.bp] false)::pt p5 (.cells 1 [.bp] false)::A ε::pt p2 (.cells 1 [rv] false)::pt p3 (.cells 1 [.int .i64 (p:Int)] false)::S)):
  Call ⟨Tryz.prog,told⟩ 159 [.uD id,.ptr p3 0,.ptr p2 0] h fun v h'=>∃pv bv ε',EI N B ε'∧Sm N ε ε'∧Sat h' (pt id (.loop false 36 env [12,13] oP oQ)::pt p4 (.cells 1 [pv] false)::pt p5 (.cells 1 [bv] false)::.arr 1 pv (bE (p::ps))::aR bv (flatL cs)::A ε'::pt p2 (.cells 1 [rv] false)::pt p3 (.cells 1 [.int .i64 (p:Int)] false)::S):=by
 refine Call.of_wp (hT.free _ rfl) Tryz.func159 rfl rfl (zg rfl (zl rfl (s.ld (k:=5) rfl dY rfl) (zk 6 rfl (WP.block ?_))))
 have s:=(s.l7 (k:=1)).Dl
 have s:=s.ae [2,2,2,1,0]
 refine Im hT hR hN I ps p cs 65536 [] [] .bp .bp ε _ _ _ J hc a_ (by omega) (aD _) (by rw [bB]; omega) (by rw [bB]; omega) s ⟨rfl,rfl,rfl,rfl,aa⟩ (fun pv bv ε' E' h' g1 g2 g3=>⟨aa,_,rfl,pv,bv,ε',g1,g2,g3⟩)
theorem R5 (hR:mT mh N B rv A pg)(hv:En rv)(hN:N≤65536){p:Nat}(fq:EI N B ε)(hc:kM (pg ε) (p::ps) cs)(a_:∀x∈p::ps,x<N)(hl:ps.length≤1000)(nu:(flatL cs).length≤1048576)(s:Sat h (A ε::S)):
  ∃v h2,(∃N0,∀n,N0≤n→toldRange CB n 50 [rv,.int .i64 (p:Int)] h=some (v,h2))∧(∃w u ε',v=.bh [w,u,.int .i64 0]∧EI N B ε'∧Sm N ε ε'∧Sat h2 (.arr 1 w (bE (p::ps))::aR u (flatL cs)::A ε'::S)):=by
 have hT:=W.base
 refine Ek (C:=CB) (a:=XM) (b:=XN) (t:=XO) (lC:=oP) (bd:=oQ) (kg:=0) (g:=159) (x:=.tmp 11) (ps := #[12,13]) Em rfl rfl (by kernel_rfl) ?_
 refine zr rfl ?_
 refine az.cG s rfl rfl rfl (cA UY) (fun p4 h s => ?_)
 dsimp only [V.cells,List.length_cons,List.length_nil,Nat.reduceAdd] at s
 refine az.cG s rfl rfl rfl (cA n4) (fun p5 h s => ?_)
 dsimp only [V.cells,List.length_cons,List.length_nil,Nat.reduceAdd] at s
 refine az.cG s rfl rfl rfl (cA UX) (fun p6 h s => ?_)
 dsimp only [V.cells,List.length_cons,List.length_nil,Nat.reduceAdd] at s
 refine zv ?_
 refine ⟨rfl,?_⟩
 refine zr rfl (zm rfl (zm rfl (az.call rfl rfl rfl rfl rfl rfl rfl (MP hT hv s) ?_)))
 rintro v h ⟨p2,p3,rfl,s⟩
 refine zv ?_
 refine ⟨rfl,_,rfl,fun env J => ?_⟩
 have s:=s.new (.loop false 36 env [12,13] oP oQ)
 have s:=s.ae [0,4,3,3,1,0,0]
 dsimp only [bringA,getA,aV] at s
 obtain ⟨u,h3,BQ,pv,bv,ε',rN,hs,s⟩:=KQ hT hR hN (J.sub (Has.sub (F:=[(4,.ptr p4 0),(5,.ptr p5 0)]) ⟨rfl,rfl,aa⟩)) fq hc a_ hl s
 refine ⟨u,h3,BQ,s.row (k:=0) rfl,?_⟩
 have s:=s.kill
 generalize h3.put h.next none=h at s ⊢
 have Uq:=s.kY (j:=2) rfl
 have I:=jm (s.buf (k:=3) rfl).view
 have hlen:(bE (p::ps)).length=(p::ps).length*1:=by rw [eL,cq]
 have T2:(p::ps).length≤1001:=by rw [aO]; omega
 obtain ⟨i1,jb,gi,tc⟩:=og
 refine zw ?_
 have s0:=s
 refine WP.drawn [ak,ak,ak,some (0,2),none,some (0,3),some (0,3),none,some (0,4),ak,ak,ak,ak] rfl (by kernel_rfl) (by kernel_rfl) ?_
 refine zL rfl (by exact s.ld (k:=0) rfl mq rfl) ?_
 refine zO rfl (aM rfl rfl rfl (s.dF (n:=(p::ps).length) (j:=2) rfl hlen (by decide) bL)) ?_
 obtain ⟨wv,h1,e3,s1⟩:=rG (P:=Tryz.prog) s bL jb uo gi (by omega) rfl (by decide) (by decide) (n:=0) (c:=(p::ps).length) (by omega) (by omega)
 refine aC.any rfl rfl rfl rfl (OpR.of (R:=fun v h'=>v=wv∧h'=h1) (rE rfl rfl e3) ⟨rfl,rfl⟩) ?_
 rintro w0 h ⟨rfl,rfl⟩
 have s:Sat h (.arr 1 w0 []::_):=s1
 have s:=s.ae [1,1,1,1,0]
 dsimp only [bringA,getA,aV] at s
 have s1:=s
 obtain ⟨w3,h2,e4,s2⟩:=fP (s.ae [4,2]) bL jb uo gi (by omega) rfl (by decide) (by rw [hlen,bB]; omega)
 rw [cV] at s2
 dsimp only [bringA,getA,aV] at s2
 refine zL rfl (by exact s.ld (k:=0) rfl mq rfl) ?_
 refine aC.any rfl rfl rfl rfl (OpR.of (R:=fun v h'=>v=w3∧h'=h2) (kj rfl rfl e4) ⟨rfl,rfl⟩) ?_
 rintro w3 h ⟨rfl,rfl⟩
 have s:=s2.ae [2,2,1,1,0]
 dsimp only [bringA,getA,aV] at s
 have s2:=s
 refine zL rfl (by exact s.ld (k:=1) rfl bN rfl) ?_
 refine zO rfl (aM rfl rfl rfl (aW aG (s.aH (k:=3) rfl (aX _ _)))) (aC.any rfl rfl rfl rfl (OpR.qE rfl s rfl rfl rfl rfl (by omega)) ?_)
 intro u2 h s
 have s:=s.ae [1,1,1,1,1,0]
 dsimp only [bringA,getA,aV] at s
 have s3:=s
 refine zL rfl (by exact s.ld (k:=1) rfl bN rfl) ?_
 refine aC.any rfl rfl rfl rfl (OpR.ni rfl (s.ae [5,3]) (aX _ _) rfl rfl rfl rfl (by rw [bB]; omega)) ?_
 intro u3 h s
 rw [cV] at s
 have s:=s.ae [2,2,2,1,1,0]
 dsimp only [bringA,getA,aV] at s
 have KP:=s.kY (j:=4) rfl
 have D5:=(s.buf (k:=5) rfl).view.cells
 refine aC.j3 rfl rfl rfl (OpR.sS rfl rfl rfl (s.iF (k:=0) rfl LJ rfl (by decide) KP.1 KP.2.1)) ?_
 rintro v h ⟨rfl,s⟩
 dsimp only [setA,List.set] at s
 refine aC.j3 rfl rfl rfl (OpR.sS rfl rfl rfl (s.iF (k:=1) rfl ko rfl (by decide) D5.1 D5.2)) ?_
 rintro v h ⟨rfl,s⟩
 dsimp only [setA,List.set] at s
 refine aC.j3 rfl rfl rfl (OpR.sS rfl rfl rfl (s.iF (k:=9) rfl UU rfl (by decide) rfl rfl)) ?_
 rintro v h ⟨rfl,s⟩
 dsimp only [setA,List.set] at s
 refine aC.nil ⟨⟨aa,aa,aa,ff (.inr ⟨rfl,⟨_,aU rfl (by exact s0.ld (k:=0) rfl mq rfl)⟩,Uq.2.2⟩) (.inr ⟨rfl,⟨_,aU rfl (by exact s1.ld (k:=0) rfl mq rfl)⟩,Uq.2.2⟩),aa,qA (.inr ⟨rfl,⟨_,aU rfl (by exact s0.ld (k:=1) rfl bN rfl)⟩,I⟩) (.inr ⟨rfl,⟨_,aU rfl (by exact s1.ld (k:=1) rfl bN rfl)⟩,I⟩) (.inr ⟨rfl,⟨_,aU rfl (by exact s2.ld (k:=1) rfl bN rfl)⟩,I⟩),qA (.inr ⟨rfl,⟨_,aM rfl rfl rfl (aW aG (s0.aH (k:=3) rfl (aX _ _)))⟩,bS _ rfl⟩) (.inr ⟨rfl,⟨_,aM rfl rfl rfl (aW aG (s1.aH (k:=3) rfl (aX _ _)))⟩,bS _ rfl⟩) (.inr ⟨rfl,⟨_,aM rfl rfl rfl (aW aG (s2.aH (k:=3) rfl (aX _ _)))⟩,bS _ rfl⟩),aa,Jx (.inr ⟨rfl,⟨_,aU rfl (by exact s0.ld (k:=1) rfl bN rfl)⟩,I⟩) (.inr ⟨rfl,⟨_,aU rfl (by exact s1.ld (k:=1) rfl bN rfl)⟩,I⟩) (.inr ⟨rfl,⟨_,aU rfl (by exact s2.ld (k:=1) rfl bN rfl)⟩,I⟩) (.inr ⟨rfl,⟨_,aU rfl (by exact s3.ld (k:=1) rfl bN rfl)⟩,I⟩),aa,aa,aa,aa,aa⟩,?_⟩
 refine WP.ret ?_
 refine ⟨aa,_,Tl rfl (s.ld (k:=0) rfl mq rfl) rfl (s.ld (k:=1) rfl bN rfl) rfl (s.ld (k:=9) rfl UW rfl),_,_,ε',rfl,rN,hs,?_⟩
 exact (((((((s.ae [4,4,4]).del 9).del 8).del 7).del 6).del 5).del 4).del 3
theorem KR (hT:WC told)(hR:mT mh N B rv A pg)(hv:En rv)(hN:N≤65536){p:Nat}(I:EI N B ε)(hc:kM (pg ε) (p::ps) cs)(J:∀x∈p::ps,x<N)(hl:ps.length≤1000)(nu:(flatL cs).length≤1048576)(s:Sat h (A ε::S)):
  Call ⟨Tryz.prog,told⟩ 50 [rv,.int .i64 (p:Int)] h fun v h'=>∃w u ε',v=.bh [w,u,.int .i64 0]∧EI N B ε'∧Sm N ε ε'∧Sat h' (.arr 1 w (bE (p::ps))::aR u (flatL cs)::A ε'::S) :=
 Call.range hT.all Em rfl (R5 hR hv hN I hc J hl nu s)
theorem yl (hT:WC told)(hR:mT mh N B rv A pg)(hv:En rv)(hN:N≤65536){p:Nat}(J:EI N B ε)(hc:kM (pg ε) (p::ps) cs)(a_:∀x∈p::ps,x<N)(hl:ps.length≤1000)(nu:(flatL cs).length≤1048576)(s:Sat h (A ε::S)):
  Call ⟨Tryz.prog,told⟩ 19 [rv,.int .i64 (p:Int)] h fun v h'=>∃u ε',v=.bh [u,.int .i64 0]∧EI N B ε'∧Sm N ε ε'∧Sat h' (aR u (flatL cs)::A ε'::S):=by
 refine Call.of_wp (hT.w.free _ rfl) Tryz.func19 rfl rfl (zK 9 rfl (zc rfl (KR hT hR hv hN J hc a_ hl nu s) ?_))
 rintro v h ⟨w,u,ε',rfl,I,hs,s⟩
 exact zk 15 rfl (WP.ret ⟨aa,_,rfl,u,ε',rfl,I,hs,s.drop⟩)
theorem Ca (hT:WC told)(hR:mT mh N B rv A pg)(hv:En rv)(hN:N≤65536){p:Nat}(J:EI N B ε)(hc:kM (pg ε) (p::ps) cs)(a_:∀x∈p::ps,x<N)(hl:ps.length≤1000)(nu:(flatL cs).length≤1048576)(s:Sat h (A ε::S)):
  Call ⟨Tryz.prog,told⟩ 18 [rv,.int .i64 (p:Int)] h fun v h'=>∃w ε',v=.bh [w,.int .i64 0]∧EI N B ε'∧Sm N ε ε'∧Sat h' (.arr 1 w (bE (p::ps))::A ε'::S):=by
 refine Call.of_wp (hT.w.free _ rfl) Tryz.func18 rfl rfl (zK 9 rfl (zc rfl (KR hT hR hv hN J hc a_ hl nu s) ?_))
 rintro v h ⟨w,u,ε',rfl,I,hs,s⟩
 exact zk 15 rfl (WP.ret ⟨aa,_,rfl,w,ε',rfl,I,hs,s.del 1⟩)
def jB (n:Nat): Nat:=if n=0 then 1 else (n-1)/480+1
theorem BB (I:W told){n:Int}(J:n<9223372036854775808): Call ⟨Tryz.prog,told⟩ 12 [.int .i64 n] h fun v h'=>v=.int .i64 (jB n.toNat:Nat)∧h'=h:=by
 refine Call.of_wp (I.free _ rfl) Tryz.func12 rfl rfl (zK 8 rfl ?_)
 by_cases h0:n≤0
 ·skip
  refine zt rfl (ag rfl rfl xO) (by simp; omega) ?_
  exact zk 6 rfl (WP.ret ⟨aa,_,rfl,by rw [show n.toNat=0 by omega]; rfl,rfl⟩)
 ·obtain ⟨m,rfl⟩:∃m:Nat,n=(m:Int)+1:=⟨n.toNat-1,by omega⟩
  have hm:(m:Int)+1-1=(m:Int):=by omega
  have hd:m/480≤m:=vX _ _
  refine zh rfl (ag rfl rfl xO) (by simp <;> omega) ?_
  refine zk 6 rfl (zo rfl (ag (r:=.int .i64 (m:Int)) rfl rfl ((jF (a:=(m:Int)+1) (b:=1) (aA (by omega) (by omega))).trans (by rw [hm]))) ?_)
  refine zb rfl (wW (a:=m) (b:=480) (by decide) (by omega)) ?_
  refine zb rfl (by exact bk (aA (by omega) (by omega))) ?_
  exact zk 2 rfl (WP.ret ⟨aa,_,rfl,by rw [jB,ai (by omega),show ((m:Int)+1).toNat-1=m by omega]; rfl,rfl⟩)
end
section
variable {told:cN} {h:H} {S:List aq} {X Y:aq} {N B n:Nat} {v x y rv:V} {b l c R M:List Nat} {kd link extra kW:Nat} {cs:List (List Nat)} {A:aF→aq} {pg:aF→Int→List Nat} {ε:aF}
def kN (f:Nat→Bool)(k:Nat): List Nat:=(List.range k).filter f
theorem Eo {f:Nat→Bool}{k:Nat}: kN f (k+1)=if f k then kN f k++[k] else kN f k:=by
 unfold kN
 rw [AN,List.filter_append]
 cases h:f k with
 | true=>simp [h]
 | false=>simp [h]
theorem GG {f:Nat→Bool}{k:Nat}: (kN f k).length≤k:=by
 unfold kN
 exact cn (List.length_filter_le _ _) (by rw [sC]; exact aD _)
theorem ym {k:Nat}(s:Sat h (.arr 1 v (bE l)::S))(hl:l.length≤1048576):
  ∃I J w h2,buildSliceV Tryz.prog h 33 1 [(0,.int .i64 (k:Int))]=some (I,J)∧appendV Tryz.prog J #[33,33] v I=some (w,h2)∧Sat h2 (.arr 1 w (bE (l++[k]))::S):=by
 obtain ⟨I,J,e1,s1⟩:=j7 (P:=Tryz.prog) (k:=1) (x:=.int .i64 (k:Int)) s bL uo kf rfl (by decide) (by decide) rfl rfl
 obtain ⟨i1,jb,gi,tc⟩:=og
 obtain ⟨w,h2,e2,s2⟩:=fP (s1.ae [1,0]) bL jb uo gi (by omega) rfl (by decide) (by simp only [eL,V.cells,aO,bB]; omega)
 refine ⟨I,J,w,h2,e1,e2,?_⟩
 have e:bE (l++[k])=bE l++[.int .i64 (k:Int)]:=by simp [bE]
 rw [e]
 exact s2.del 1
noncomputable def XS : Code:=eD [1,1,1,1,0,1,0,0,1,1,0,0,1,1,1,1,0,0] ((Tryz.f25.body).getD .skip)
theorem KS (hT:W told){u:V}(NN:M.length=375)(hn:n≤3000): ∀(m k:Nat) (v:V) (h:H) (E:List (Nat×V)) (Q:Ex→List (Nat×V)→H→Prop),k+m=n →
  Sat h (.arr 1 v (bE (kN (bt M) k))::aR u M::S)→Has E [(7,v),(8,.int .i64 0),(10,u),(24,.int .i64 1),(25,.int .i64 0),(42,.int .i64 (n:Int)),(43,.int .i64 (k:Int))] →
  (∀v' E' h',Has E' [(7,v'),(24,.int .i64 1),(25,.int .i64 0)]→Sat h' (.arr 1 v' (bE (kN (bt M) n))::aR u M::S)→Q (.exit 2) E' h')→WP ⟨Tryz.prog,told⟩ 70 (.loop XS) E h Q:=by
 intro m
 induction m with
 | zero =>
  intro k v h E Q hk s hE hq
  refine WP.loop (WP.has hE (zg rfl (zh rfl (ag rfl rfl aP) (by simp; omega) ?_)))
  refine zk 3 rfl (WP.exit ?_)
  obtain rfl:k=n:=by omega
  exact hq v _ _ ⟨rfl,rfl,rfl,aa⟩ s
 | succ m ih =>
  intro k v h E Q hk s hE hq
  have hb:M[k/8]?=some (M[k/8]'(by omega)):=aN _
  have J:M.getD (k/8) 0=M[k/8]'(by omega):=by rw [er,hb]; rfl
  generalize (M[k/8]'(by omega))=x at hb J
  have hv:=(s.buf (k:=1) rfl).view
  have hx:x<256:=hv.1 x (aY hb)
  have vL:x.testBit (k%8)=bt M k:=by rw [bt,J]
  obtain ⟨id,off,e1,e2⟩:=dN hv hb
  have ND:x/2^(k%8)<256:=Nat.lt_of_le_of_lt (vX _ _) hx
  have NN:=GG (f:=bt M) (k:=k)
  refine WP.loop (WP.has hE (zg rfl (zt rfl (ag rfl rfl aP) (by simp; omega) ?_)))
  refine zk 5 rfl (WP.block (zK 9 rfl (zb rfl (wW (a:=k) (b:=8) (by decide) (by omega)) ?_)))
  refine zo rfl (cx (r:=.ptr id off) rfl rfl e1) (zl rfl e2 (zm rfl (zb rfl (HS (a:=k) (b:=8) (by decide)) ?_)))
  refine zb rfl (RH (a:=x) (k:=k%8) (by omega)) ?_
  refine zb rfl (RJ (b:=1) ND (by decide)) ?_
  cases I:bt M k with
  | true =>
   refine zt rfl (ag rfl rfl KD) (vL.trans I) (zk 5 rfl (zb rfl (by exact jG (aA (by omega) (by omega))) ?_))
   refine zm rfl (zb rfl (by exact bk (aA (by omega) (by omega))) ?_)
   obtain ⟨iv,h1,w,h2,e3,e4,s2⟩:=ym (k:=k) s (by omega)
   have ek:(3000:Int)*0+(k:Int)=(k:Int):=by omega
   rw [ek]
   refine az.any rfl rfl rfl (OpR.of (R:=fun v h'=>v=iv∧h'=h1) (kn rfl e3) ⟨rfl,rfl⟩) ?_
   rintro iv h1 ⟨rfl,rfl⟩
   refine az.any rfl rfl rfl (OpR.of (R:=fun v h'=>v=w∧h'=h2) (kj rfl rfl e4) ⟨rfl,rfl⟩) ?_
   rintro w h2 ⟨rfl,rfl⟩
   refine za rfl (zv (zr rfl (zb rfl (by exact bk (aA (by omega) (by omega))) ?_)))
   refine zm rfl (zv ?_)
   exact ih (k+1) _ _ _ Q (by omega) (by rw [Eo,I,au rfl]; exact s2) ⟨rfl,rfl,rfl,rfl,rfl,rfl,rfl,aa⟩ hq
  | false =>
   refine zh rfl (ag rfl rfl KD) (vL.trans I) (zv (zj rfl (WP.skip (zr rfl (zb rfl (by exact bk (aA (by omega) (by omega))) ?_)))))
   refine zm rfl (zv ?_)
   exact ih (k+1) _ _ _ Q (by omega) (by rw [Eo,I,ai (by decide)]; exact s) ⟨rfl,rfl,rfl,rfl,rfl,rfl,rfl,aa⟩ hq
theorem MQ (hT:W told)(hR:mT told N B rv A pg)(fq:EI N B ε)(hN:2≤N)(J:iw n R M (pg ε))(s:Sat h (A ε::S)):
  Call ⟨Tryz.prog,told⟩ 25 [rv] h fun v h'=>∃w ε',v=.bh [w,.int .i64 0]∧EI N B ε'∧Sm N ε ε'∧Sat h' (.arr 1 w (bE (kN (bt M) n))::A ε'::S):=by
 obtain ⟨ex,qu⟩:=J.head
 obtain ⟨kd,lk,kW,I⟩:=J.marks
 have hM:=J.ml
 have oZ:=J.n2
 have zY:=J.n1
 have NN:=GG (f:=bt M) (k:=n)
 refine Call.of_wp (hT.free _ rfl) Tryz.func25 rfl rfl (zK 8 rfl (zc rfl (wX hT hR fq (by omega) qu J.rl s) ?_))
 rintro v h ⟨u,qV,rfl,nG,iM,s⟩
 refine zk 12 rfl (zh rfl (ag rfl rfl aJ) (rfl) (zk 11 rfl (zc rfl (vJ hT (by omega) (by omega)) ?_)))
 rintro v h' ⟨rfl,rfl⟩
 refine zb rfl (by exact jF (aA (by omega) (by omega))) ?_
 refine zk 2 rfl (WP.block (WP.loop (zg rfl (zt rfl (ag rfl rfl aP) (by decide) ?_))))
 have I:dI (pg qV 1) kd lk kW [M]:=by rw [hR.same iM]; exact I
 refine zk 5 rfl (WP.block (zK 9 rfl (zc rfl (ua hT hR nG hN I hM (s.ae [1])) ?_)))
 rintro v h ⟨w2,u2,kP,rfl,mc,kA,s⟩
 refine zk 12 rfl (zh rfl (ag rfl rfl aJ) (rfl) (zk 7 rfl (zb rfl (by exact jG (aA (by omega) (by omega))) ?_)))
 refine zb rfl (by exact jF (aA (by omega) (by omega))) ?_
 have em:min (3000:Int) ((n:Int)-3000*0)=(n:Int):=by omega
 refine zo rfl (Dm (r:=.int .i64 (n:Int)) rfl rfl (Ie.trans (by rw [em]))) ?_
 refine zk 2 rfl (WP.block ?_)
 have s:=s.l7 (k:=1)
 refine KS hT hM (by omega) n 0 _ _ _ _ (by omega) s ⟨rfl,rfl,rfl,rfl,rfl,rfl,rfl,aa⟩ (fun v' E' h' hE s' => ?_)
 have s:=s'
 refine WP.has hE (zr rfl (zb rfl (by exact bk (aA (by omega) (by omega))) ?_))
 refine zm rfl (zv (WP.loop (zg rfl (zh rfl (ag rfl rfl aP) (by decide) ?_))))
 refine zk 3 rfl (WP.exit (zK 3 rfl (zo rfl (aM rfl rfl rfl (s.dF (n:=(kN (bt M) n).length) (j:=0) rfl (by rw [eL,cq]) (by decide) bL)) ?_)))
 obtain ⟨i1,jb,gi,tc⟩:=og
 obtain ⟨wv,h1,e3,s1⟩:=rG (P:=Tryz.prog) s bL jb uo gi (by omega) rfl (by decide) (by decide) (n:=0) (c:=(kN (bt M) n).length) (by omega) (by omega)
 refine az.any rfl rfl rfl (OpR.of (R:=fun v h'=>v=wv∧h'=h1) (rE rfl rfl e3) ⟨rfl,rfl⟩) ?_
 rintro w0 h ⟨rfl,rfl⟩
 have s:Sat h (.arr 1 w0 []::_):=s1
 obtain ⟨w3,h2,e4,s2⟩:=fP s bL jb uo gi (by omega) rfl (by decide) (by simp only [eL,bB]; omega)
 rw [cV] at s2
 refine zm rfl (az.any rfl rfl rfl (OpR.of (R:=fun v h'=>v=w3∧h'=h2) (kj rfl rfl e4) ⟨rfl,rfl⟩) ?_)
 rintro w3 h ⟨rfl,rfl⟩
 exact zk 3 rfl (WP.ret ⟨aa,_,rfl,_,kP,rfl,mc,iM.trans kA,(((((s2.ae [0,3]).del 5).del 4).del 3).del 2)⟩)
end
section
variable {P:Program} {h:H} {S:List aq} {j i k:Nat} {v c x:V} {cs:List V} {t te t':TypeId}
theorem Io (s:Sat h (.arr 1 v cs::S))(hi:i<cs.length)(hx:x.cells=[x])(J:storable x=true)(hu:P.underlying t=some (.slice te))(Ur:bj P te=some 1):
  ∃id off h',indexAddrV P t v (.int .i64 (i:Int))=some (.ptr id off)∧fH P h te (.ptr id off) x=some h'∧Sat h' (.arr 1 v (cs.set i x)::S):=by
 have dh:cs≠[]:=fun e=>by rw [e] at hi; simp at hi
 have I:=s.HB (j:=0) rfl
 obtain ⟨id,m,cap,M,rest,rfl,hl,hM,s1,hc⟩:=s.OL dh
 rw [cq] at hl
 obtain ⟨h',e1,e2⟩:=s1.iF (P:=P) (t:=te) (k:=0) (off:=i) (v:=x) rfl Ur (by rw [bD,hM]) (by omega) hx J
 refine ⟨id,i,h',?_,e1,hc h' (cs.set i x) S (bQ) ?_ ?_⟩
 ·simp only [indexAddrV,hu,Ur,ck]
  rw [show (decide ((0:Int)≤(i:Int))&&decide ((i:Int)<(m:Int)))=true by simp; omega,af]
  simp
 ·rw [nM] at I ⊢
  intro y hy
  rcases kB hy with hy | rfl
  ·exact I y hy
  ·exact J
 ·have e3:(cs++rest).set i x=cs.set i x++rest:=Aw _ _ hi
  dsimp only [setA] at e2
  rw [e3] at e2
  exact e2
end
structure WS (told:cN): Prop where
 w:W told
 fmt:told 31=some (lp Tryz.prog 31 (Eg 31))
theorem Px {f:Nat→Bool}{k m:Nat}: (kN f (k+m)).length=(kN f k).length+((List.range m).filter fun i=>f (k+i)).length:=by
 unfold kN
 rw [List.range_add,List.filter_append,bD,List.filter_map,ew]
 rfl
theorem MR {f:Nat→Bool}{n m:Nat}(h:∀j,n≤j→f j=false): (kN f (n+m)).length=(kN f n).length:=by
 rw [Px]
 have:((List.range m).filter fun i=>f (n+i))=[]:=List.filter_eq_nil_iff.2 fun i _=>by rw [h _ (by omega)]; decide
 rw [this]; rfl
theorem KT {f g:Nat→Bool}{n:Nat}(h:∀i,i<n→f i=g i): kN f n=kN g n:=List.filter_congr fun i hi=>h i (List.mem_range.1 hi)
section
variable {told:cN} {h:H} {S:List aq} {X Y:aq} {N B n g a p q r bz:Nat} {v w x y rv uv:V} {Rt:List V} {U:List Bool} {b l c R M data L:List Nat} {A:aF→aq} {pg:aF→Int→List Nat} {ε:aF}
theorem KU (hT:WS told){K:Nat}{m:Nat}(hB:B≤800)(I:EI N B ε)(hN:4≤N)(J:N≤1000)(hz:(pgA ε 0).length=512)(hg:bU (pgA ε 0)=false)(hd:uy K m ε)(hf:K+520*N+28≤m)(s:Sat h (SA a p q r .cU data bz ε::S)):
  Call ⟨Tryz.prog,told⟩ 31 [.ptr a 0] h fun v h'=>v=.int .i64 0∧∃ε',EI N (B+2) ε'∧iw N (List.replicate 64 0) oN (pgA ε')∧uy (K+520*N+28) m ε'∧Sat h' (SA a p q r .cU data bz ε'::S) :=
 Call.defer hT.fmt Eh rfl (KM hB I hN J hz hg hd hf s)
theorem uz (hT:WS told){m f:Nat}(hN:4≤n)(KN:n≤1000)(hm:m≤16777216)(hf:520*n+28≤m)(h4:1≤f)(h5:f≤1024)(s:Sat h S):
  Call ⟨Tryz.prog,told⟩ 14 [.int .i64 (n:Int),.int .i64 (m:Int),.int .i64 (f:Int)] h fun v h'=>∃p a q r ε,v=.ptr a 0∧EI n 3 ε∧iw n (List.replicate 64 0) oN (pgA ε)∧uy (520*n+28) m ε∧Sat h' (SA a p q r .cU [] 0 ε::S):=by
 have I:bU (List.replicate 512 0)=false:=by decide +kernel
 refine Call.of_wp (hT.w.free _ rfl) Tryz.func14 rfl rfl (zK 9 rfl (zc rfl (H7 (n:=n) (m:=m) (f:=f) hT.w s (by omega) (by omega) hm h4 h5) ?_))
 rintro v h ⟨p,a,q,r,rfl,s⟩
 have s:Sat h (SA a p q r .cU [] 0 (fresh n m f)::S):=c6.2 s
 refine zk 10 rfl (zh rfl (ag rfl rfl (tX vB)) (rfl) (zk 2 rfl (zc rfl (KU (K:=0) (m:=m) hT (by decide) (EI.fresh (by omega) hm h4 h5) hN KN (by rw [B8]; exact eR) (by rw [B8]; exact I) ⟨aD _,rfl⟩ (by omega) s) ?_)))
 rintro v h ⟨rfl,ε',J,hp,hd,s⟩
 rw [dJ] at hd
 exact zh rfl (ag rfl rfl aJ) (rfl) (zk 9 rfl (WP.ret ⟨aa,_,rfl,p,a,q,r,ε',rfl,J,hp,hd,s⟩))
theorem Cb (I:W told)(s:Sat h (SA a p q r .cU data bz ε::S)): Call ⟨Tryz.prog,told⟩ 15 [.ptr a 0] h fun v h'=>∃g,v=.ptr g 0∧Sat h' (GA g a p q r data bz [] ε::S):=by
 have s:=c6.1 s
 have s:Sat h (ej a p q r .cU data bz::dL r p q ε.1::b7 q p ε.2.1::bx p ε.2.2::S):=s
 refine Call.of_wp (I.free _ rfl) Tryz.func15 rfl rfl (zK 7 rfl (zc rfl (B5 I s) ?_))
 rintro v h ⟨g,rfl,s⟩
 exact zk 10 rfl (zh rfl (ag rfl rfl aJ) (rfl) (zk 8 rfl (WP.ret ⟨aa,_,rfl,g,rfl,c6.2 s⟩)))
end
section
variable {told:cN} {h:H} {S:List aq} {X Y:aq} {N B n g a p q r bz:Nat} {v w x y rv uv:V} {Rt:List V} {U:List Bool} {b l c R M data L:List Nat} {A:aF→aq} {pg:aF→Int→List Nat} {ε:aF}
end
def cf (M:List Nat)(N:Nat): List Nat:=(List.range N).filter fun i => !bt M i
theorem mz {M:List Nat}{N i:Nat}: i∈cf M N↔i<N∧bt M i=false:=by
 unfold cf
 rw [AO,vZ]
 simp
theorem vN (M:List Nat)(N:Nat): (cf M N).Pairwise (· < ·):=Ax _ As
theorem Aq (M:List Nat)(N:Nat): (cf M N).Nodup:=(vN M N).imp fun h=>fE h
theorem Cc {L:List Nat}{k z:Nat}(hs:L.Pairwise (· < ·))(hz:L[k]?=some z): (∀j,j∈L.take k↔j∈L∧j<z)∧L.take (k+1)=L.take k++[z]:=by
 have hk:=(List.getElem?_eq_some_iff.1 hz).1
 have e:L=L.take k++z::L.drop (k+1):=by
  have J:=List.getElem_cons_drop hk
  rw [(List.getElem?_eq_some_iff.1 hz).2] at J
  rw [J,nI]
 refine ⟨fun j => ?_,by rw [sA,hz]; rfl⟩
 generalize L.take k=a at e ⊢
 generalize L.drop (k+1)=b at e
 subst e
 obtain ⟨h1,J,h3⟩:=List.pairwise_append.1 hs
 obtain ⟨h4,h5⟩:=List.pairwise_cons.1 J
 constructor
 ·intro I; exact ⟨List.mem_append.2 (.inl I),h3 j I z cz⟩
 ·rintro ⟨I,a_⟩
  rcases List.mem_append.1 I with I | I
  ·exact I
  ·rcases List.mem_cons.1 I with rfl | I
   ·omega
   ·have:=h4 j I; omega
theorem yn {M:List Nat}{N:Nat}: (kN (bt M) N).length+(cf M N).length=N:=by
 have key:∀(l:List Nat),(l.filter (bt M)).length+(l.filter fun i => !bt M i).length=l.length:=by
  intro l
  induction l with
  | nil=>rfl
  | cons x l I=>cases h:bt M x <;> simp [h] <;> omega
 have:=key (List.range N)
 rw [sC] at this
 exact this
def chunk (b:List Nat)(i:Nat): List Nat:=(b.take (480*(i+1))).drop (480*i)
def chunks (b:List Nat)(m:Nat): List (List Nat):=(List.range m).map (chunk b)
theorem Cd {b:List Nat}{i:Nat}: (chunk b i).length≤480:=by
 unfold chunk
 rw [List.length_drop,e_]; omega
theorem Ip {b:List Nat}{m:Nat}: (chunks b m).length=m:=by unfold chunks; rw [ew,sC]
theorem Iq {b:List Nat}{m i:Nat}(h:i<m): (chunks b m)[i]?=some (chunk b i):=by
 unfold chunks
 rw [gJ,List.getElem?_range h]; rfl
theorem KV : ∀(a b:List (List Nat)),flatL (a++b)=flatL a++flatL b:=by
 intro a
 induction a with
 | nil=>intro b; rfl
 | cons x a I=>intro b; simp only [gK,flatL,I,eu]
theorem Fj {b:List Nat}: ∀m,flatL (chunks b m)=b.take (480*m):=by
 intro m
 induction m with
 | zero=>simp [chunks,flatL]
 | succ m I =>
  have e:chunks b (m+1)=chunks b m++[chunk b m]:=by unfold chunks; rw [AN,vW]; rfl
  rw [e,KV,I]
  simp only [flatL,fD,chunk]
  have J:b.take (480*m)=(b.take (480*(m+1))).take (480*m):=by rw [pT]; congr 1; omega
  rw [J,nI]
theorem ud {n:Nat}: n≤480*jB n∧1≤jB n∧jB n≤n+1:=by
 unfold jB
 split
 ·omega
 ·omega
theorem Ar {b:List Nat}: flatL (chunks b (jB b.length))=b:=by
 rw [Fj,dO ud.1]
theorem kM.mk {P:Int→List Nat}: ∀ {ps:List Nat} {cs:List (List Nat)},ps.length=cs.length→(∀(i p:Nat) (c:List Nat),ps[i]?=some p→cs[i]?=some c→dI (P p) 203 (ps.getD (i+1) 0) (ps.length-i) [c])→kM P ps cs:=by
 intro ps
 induction ps with
 | nil=>intro cs I _; cases cs with
  | nil=>trivial
  | cons c cs=>simp at I
 | cons p ps J=>intro cs I h; cases cs with
  | nil=>simp at I
  | cons c cs =>
   refine ⟨?_,J (by simpa using I) fun i q d hq hd => ?_⟩
   ·have:=h 0 p c rfl rfl
    have e:(p::ps).getD (0+1) 0=ps.headD 0:=by cases ps <;> rfl
    rw [e] at this
    exact this
   ·have:=h (i+1) q d (by simpa using hq) (by simpa using hd)
    have e:(p::ps).getD (i+1+1) 0=ps.getD (i+1) 0:=by rw [er,er,jQ]
    have e2:(p::ps).length-(i+1)=ps.length-i:=by rw [aO]; omega
    rw [e,e2] at this
    exact this
section
variable {told:cN} {h:H} {S:List aq} {X Y:aq} {N B n g a p q r bz m:Nat} {v x y rv pv bv cv:V} {b l c R M data:List Nat} {ps:List Nat} {cs:List (List Nat)} {ε:aF} {now:List (Int×List Nat)}
structure Ep (N:Nat)(R M:List Nat)(P:Int→List Nat)(ps:List Nat)(M':List Nat)(P':Int→List Nat): Prop where
 KW:iw N R M' P'
 bits:∀j,bt M' j=(bt M j||decide (j∈ps))
 same:∀j:Nat,j≠1→j∉ps→P' j=P j
theorem iw.N7 {P:Int→List Nat}(h:iw N R M P){z:Nat}(J:z∈cf M N): 2≤z∧z<N:=by
 obtain ⟨h1,I⟩:=mz.1 J
 refine ⟨?_,h1⟩
 rcases iq z 2 with q | q
 ·rw [h.own z q] at I; cases I
 ·exact q
theorem Ep.lo {P P':Int→List Nat}{I:List Nat}{k z:Nat}(h:Ep N R M P ((cf M N).take k) I P')(J:(cf M N)[k]?=some z): z<N∧bt I z=false∧∀j,j<z→bt I j=true:=by
 have hm:=mz.1 (aY J)
 obtain ⟨t1,t2⟩:=Cc (vN M N) J
 refine ⟨hm.1,?_,fun j hj => ?_⟩
 ·rw [h.bits,hm.2,pV]
  exact dQ fun q=>by have:=((t1 z).1 q).2; omega
 ·rw [h.bits]
  cases hb:bt M j with
  | true=>rfl
  | false=>rw [pV]; exact dy ((t1 j).2 ⟨mz.2 ⟨by omega,hb⟩,hj⟩)
noncomputable def XT : Code:=eD [1,1,1,0,1,0,0] ((Tryz.f17.body).getD .skip)
theorem MS (hT:W told)(hB:B≤2000){P0:Int→List Nat}(hN:N≤2999)(hm:m≤3000): ∀(j k:Nat) (pv:V) (M':List Nat) (ε:aF) (now:List (Int×List Nat)) (h:H) (E:List (Nat×V)) (Q:Ex→List (Nat×V)→H→Prop),k+j=m→k≤(cf M N).length→EI N B ε→NW N now→Ep N R M P0 ((cf M N).take k) M' (dW now ε) →
  Sat h (.arr 1 pv (bE ((cf M N).take k))::GA g a p q r data bz now ε::S)→Has E [(0,.ptr g 0),(1,bv),(6,pv),(24,.int .i64 (m:Int)),(25,.int .i64 (k:Int))] →
  (m≤(cf M N).length→∀KO M2 ε' b6 E' h',EI N B ε'→Sm N ε ε'→NW N b6→Ep N R M P0 ((cf M N).take m) M2 (dW b6 ε')→Has E' [(0,.ptr g 0),(1,bv),(6,KO)]→Sat h' (.arr 1 KO (bE ((cf M N).take m))::GA g a p q r data bz b6 ε'::S)→Q (.exit 0) E' h') →
  ((cf M N).length<m→∀ε' b6 E' h',EI N B ε'→Sm N ε ε'→NW N b6→look E' 4=some (.int .i64 0)→look E' 5=some (.int .i64 7)→Sat h' (GA g a p q r data bz b6 ε'::S)→Q .ret E' h')→WP ⟨Tryz.prog,told⟩ 100 (.loop XT) E h Q:=by
 intro j
 induction j with
 | zero =>
  intro k pv M' ε now h E Q hk Us fq hw hg s hE z7 gj
  obtain rfl:k=m:=by omega
  refine WP.loop (WP.has hE (zg rfl (zh rfl (ag rfl rfl aP) (by simp) ?_)))
  exact zk 3 rfl (WP.exit (z7 Us pv M' ε now _ _ fq (Sm.refl _ _) hw hg ⟨rfl,rfl,rfl,aa⟩ s))
 | succ j ih =>
  intro k pv M' ε now h E Q hk Us fq hw hg s hE z7 gj
  have hM:=hg.KW.ml
  have nu:(cf M N).length≤N:=by have:=yn (M:=M) (N:=N); omega
  refine WP.loop (WP.has hE (zg rfl (zt rfl (ag rfl rfl aP) (by simp; omega) ?_)))
  refine zk 5 rfl (WP.block (zK 3 rfl ?_))
  by_cases CD:k=(cf M N).length
  ·skip
   have kT:∀i,i<N→bt M' i=true:=fun i hi=>by
    rw [hg.bits]
    cases hb:bt M i with
    | true=>rfl
    | false=>rw [pV,CD,dO (aD _)]; exact dy (mz.2 ⟨hi,hb⟩)
   refine zc rfl (Ig hT hB fq hw hg.KW kT (s.ae [1])) ?_
   rintro v h ⟨ε',rfl,I,hs,s⟩
   refine zk 10 rfl (zt rfl (ag rfl rfl aJ) (by decide) ?_)
   exact zk 8 rfl (WP.ret (gj (by omega) ε' now _ _ I hs hw rfl rfl (s.del 1)))
  ·have hz:(cf M N)[k]?=some ((cf M N)[k]'(by omega)):=aN _
   generalize ((cf M N)[k]'(by omega))=z at hz
   obtain ⟨l1,l2,l3⟩:=hg.lo hz
   obtain ⟨t1,t2⟩:=Cc (vN M N) hz
   refine zc rfl (MG (lo:=z) hT hB fq hw hg.KW l1 l2 l3 (s.ae [1])) ?_
   rintro v h ⟨ε',b6,rfl,I,hs,m8,yH,rq,Zh,s⟩
   have XU:Ep N R M P0 ((cf M N).take (k+1)) (An M' z) (dW b6 ε'):=by
    refine ⟨yH,fun i => ?_,fun i jb gi => ?_⟩
    ·rw [NU (by omega),hg.bits,t2]
     by_cases hi:i=z
     ·subst hi; rw [au rfl,dy (List.mem_append.2 (.inr (List.mem_singleton.2 rfl))),Bool.or_true]
     ·rw [ai hi]
      congr 1
      exact decide_eq_decide.2 ⟨fun q=>List.mem_append.2 (.inl q),fun q=>(List.mem_append.1 q).resolve_right fun q2=>hi (List.mem_singleton.1 q2)⟩
    ·rw [t2] at gi
     rw [rq i (by omega) (fun e=>gi (List.mem_append.2 (.inr (List.mem_singleton.2 (by omega))))),hg.same i jb fun q=>gi (List.mem_append.2 (.inl q))]
   have s:=s.ae [1,0]
   dsimp only [aV,bringA,getA] at s
   refine zk 10 rfl (zh rfl (ag rfl rfl aJ) (rfl) (zk 6 rfl ?_))
   obtain ⟨iv,h1,w,h2,e3,e4,s2⟩:=ym (k:=z) s (by rw [e_]; omega)
   rw [←t2] at s2
   refine az.any rfl rfl rfl (OpR.of (R:=fun v h'=>v=iv∧h'=h1) (kn rfl e3) ⟨rfl,rfl⟩) ?_
   rintro iv h1 ⟨rfl,rfl⟩
   refine az.any rfl rfl rfl (OpR.of (R:=fun v h'=>v=w∧h'=h2) (kj rfl rfl e4) ⟨rfl,rfl⟩) ?_
   rintro w h2 ⟨rfl,rfl⟩
   refine za rfl (zv (zr rfl (zb rfl (by exact bk (aA (by omega) (by omega))) ?_)))
   refine zm rfl (zv ?_)
   exact ih (k+1) _ (An M' z) ε' b6 _ _ Q (by omega) (by omega) I m8 XU s2 ⟨rfl,rfl,rfl,rfl,rfl,aa⟩
    (fun xz R4 M2 kP J E2 h2 g1 g2 g3 g4 g5 g6=>z7 xz R4 M2 kP J E2 h2 g1 (hs.trans g2) g3 g4 g5 g6) (fun xz kP J E2 h2 g1 g2 g3 g4 g5 g6=>gj xz kP J E2 h2 g1 (hs.trans g2) g3 g4 g5 g6)
theorem KX {b:List Nat}{i:Nat}: (b.take (min b.length (480*(i+1)))).drop (min b.length (480*i))=chunk b i:=by
 unfold chunk
 have e:b.take (min b.length (480*(i+1)))=b.take (480*(i+1)):=by
  by_cases h:b.length≤480*(i+1)
  ·rw [mD h,dO (aD _),dO h]
  ·rw [Nat.min_eq_right (by omega)]
 rw [e]
 by_cases h:b.length≤480*i
 ·rw [mD h,gy (by rw [e_]; omega),gy (by rw [e_]; omega)]
 ·rw [Nat.min_eq_right (by omega)]
noncomputable def Ut : Code:=eD [1,1,1,1,0,1,0,0,1,1,0,0,1,1,1] ((Tryz.f17.body).getD .skip)
theorem Py (hT:W told)(hB:B≤2000)(hX:cO X (cR bv b))(oB:b.length≤8192)(yw:ps.length≤100){k z nx:Nat}(hk:k<ps.length)(hz:z<N)(B0:nx<4294967296)(fq:EI N B ε)(hw:NW N now){E:List (Nat×V)}{Q:Ex→List (Nat×V)→H→Prop}
 (s:Sat h (.arr 1 pv (bE ps)::GA g a p q r data bz now ε::X::S))(hE:Has E [(0,.ptr g 0),(1,bv),(6,pv),(9,.int .i64 (k:Int)),(10,.int .i64 (z:Int)),(11,.int .i64 (nx:Int)),(40,pv),(41,.int .i64 (ps.length:Int)),(42,.int .i64 (k:Int))])
 (hq:∀ε' b' E' h',EI N B ε'→Sm N ε ε'→NW N (dg (z:Int) b' now)→dI b' 203 nx (ps.length-k) [chunk b k]→Has E' [(0,.ptr g 0),(1,bv),(6,pv),(40,pv),(41,.int .i64 (ps.length:Int)),(42,.int .i64 (k:Int))]→Sat h' (.arr 1 pv (bE ps)::GA g a p q r data bz (dg (z:Int) b' now) ε'::X::S)→Q .normal E' h'): WP ⟨Tryz.prog,told⟩ 100 Ut E h Q:=by
 have hlen:(bE ps).length=ps.length*1:=by rw [eL,cq]
 have jf:=Cd (b:=b) (i:=k)
 refine WP.has hE (zg rfl (zc rfl (yb (kd:=203) hT s (by decide)) ?_))
 rintro v h ⟨u,b0,rfl,uJ,s⟩
 refine zk 11 rfl (zo rfl (aM rfl rfl rfl (s.dF (n:=ps.length) (j:=1) rfl hlen (by decide) bL)) ?_)
 refine zm rfl (zo rfl (ag (r:=.int .i64 ((ps.length-k:Nat):Int)) rfl rfl ((jF (aA (by omega) (by omega))).trans (by rw [show (ps.length:Int)-(k:Int)=((ps.length-k:Nat):Int) by omega]))) ?_)
 refine zc rfl (Gt (lk:=nx) (ex:=ps.length-k) hT s (aX _ _) uJ B0 (by omega)) ?_
 rintro v h ⟨u2,b2,rfl,BH,s⟩
 have I:min ((b.length:Nat):Int) (480*(k:Int))=((min b.length (480*k):Nat):Int):=by omega
 have J:min ((b.length:Nat):Int) (480*((k:Int)+1))=((min b.length (480*(k+1)):Nat):Int):=by omega
 have hle:min b.length (480*k)≤min b.length (480*(k+1)):=by omega
 refine zk 10 rfl (zo rfl (aM rfl rfl rfl (aW aG (s.aH (k:=4) rfl hX))) (zm rfl (zb rfl (by exact jG (aA (by omega) (by omega))) ?_)))
 refine zo rfl (Dm (r:=.int .i64 ((min b.length (480*k):Nat):Int)) rfl rfl (Ie.trans (by rw [I]))) ?_
 refine zm rfl (zo rfl (aM rfl rfl rfl (aW aG (s.aH (k:=4) rfl hX))) (zm rfl (zb rfl (by exact bk (aA (by omega) (by omega))) ?_)))
 refine zb rfl (by exact jG (aA (by omega) (by omega))) ?_
 refine zo rfl (Dm (r:=.int .i64 ((min b.length (480*(k+1)):Nat):Int)) rfl rfl (Ie.trans (by rw [J]))) ?_
 refine zo rfl (eV (p:=some (.int .i64 ((min b.length (480*k):Nat):Int))) (q:=some (.int .i64 ((min b.length (480*(k+1)):Nat):Int))) (m:=none) (p':=some (min b.length (480*k))) (q':=some (min b.length (480*(k+1)))) (m':=none) rfl rfl rfl rfl (by rw [eX (by omega),ck]) (by rw [eX (by omega),ck]) rfl (gV (s.aH (k:=4) rfl hX) hle (by omega)).1) ?_
 have hY:=qD hX (a:=min b.length (480*k)) (b:=min b.length (480*(k+1))) hle (by omega)
 rw [KX] at hY
 refine zc rfl (Gu (cs:=[]) hT (s.ae [0,3]) (aX _ _) hY BH (by simp only [tot,bB]; omega)) ?_
 rintro v h ⟨u3,b3,rfl,IX,s⟩
 rw [cV] at IX
 have s:=s.ae [5,0,3,1]
 dsimp only [aV,bringA,getA] at s
 refine zk 10 rfl (zc rfl (wZ (i:=z) hT hB fq hw hz s (aX _ _) IX) ?_)
 rintro v h ⟨ε',rfl,rN,hs,m8,s⟩
 refine za rfl (zv (zg rfl (zm rfl (zh rfl (ag rfl rfl aJ) (rfl) (zv (zj rfl (WP.skip ?_)))))))
 exact hq ε' b3 _ _ rN hs m8 IX ⟨rfl,rfl,rfl,rfl,rfl,rfl,aa⟩ ((((s.ae [2,0,1]).del 5).del 4).del 3)
def N8 (P:Int→List Nat)(ps:List Nat)(b:List Nat)(k:Nat): Prop:=∀(i z:Nat),i<k→ps[i]?=some z→dI (P z) 203 (ps.getD (i+1) 0) (ps.length-i) [chunk b i]
noncomputable def XV : Code:=eD [1,1,1,1,0,1,0,0] ((Tryz.f17.body).getD .skip)
theorem Pz (hT:W told)(hB:B≤2000)(hX:cO X (cR bv b))(oB:b.length≤8192)(hN:N≤2999)(yw:ps.length≤100)(nC:ps.Nodup)(rM:∀z∈ps,2≤z∧z<N){P0:Int→List Nat}: ∀(j k:Nat) (ε:aF) (now:List (Int×List Nat)) (h:H) (E:List (Nat×V)) (Q:Ex→List (Nat×V)→H→Prop),k+j=ps.length→EI N B ε→NW N now→iw N R M (dW now ε)→N8 (dW now ε) ps b k→(∀i:Nat,i∉ps→dW now ε i=P0 i) →
  Sat h (.arr 1 pv (bE ps)::GA g a p q r data bz now ε::X::S)→Has E [(0,.ptr g 0),(1,bv),(6,pv),(40,pv),(41,.int .i64 (ps.length:Int)),(42,.int .i64 (k:Int))] →
  (∀ε' b6 E' h',EI N B ε'→Sm N ε ε'→NW N b6→iw N R M (dW b6 ε')→N8 (dW b6 ε') ps b ps.length→(∀i:Nat,i∉ps→dW b6 ε' i=P0 i)→Has E' [(6,pv)]→Sat h' (.arr 1 pv (bE ps)::GA g a p q r data bz b6 ε'::X::S)→Q (.exit 2) E' h')→WP ⟨Tryz.prog,told⟩ 100 (.loop XV) E h Q:=by
 intro j
 induction j with
 | zero =>
  intro k ε now h E Q hk fq hw J Al qK s hE hq
  refine WP.loop (WP.has hE (zg rfl (zh rfl (ag rfl rfl aP) (by simp; omega) ?_)))
  refine zk 3 rfl (WP.exit ?_)
  obtain rfl:k=ps.length:=by omega
  exact hq ε now _ _ fq (Sm.refl _ _) hw J Al qK ⟨rfl,aa⟩ s
 | succ j ih =>
  intro k ε now h E Q hk fq hw J Al qK s hE hq
  have hz:ps[k]?=some (ps[k]'(by omega)):=aN _
  generalize (ps[k]'(by omega))=z at hz
  have VE:=rM z (aY hz)
  have KY:(bE ps)[k]?=some (.int .i64 (z:Int)):=by rw [bE,gJ,hz]; rfl
  have hlen:(bE ps).length=ps.length*1:=by rw [eL,cq]
  obtain ⟨id,off,e1,e2⟩:=gR (P:=Tryz.prog) s (k:=0) (i:=k) rfl KY bL kf
  have T6:=s.aH (k:=2) rfl hX
  have jf:=Cd (b:=b) (i:=k)
  -- behind the page's links
  have fin:∀ {ε':aF} {b':List Nat},Sm N ε ε'→dI b' 203 (ps.getD (k+1) 0) (ps.length-k) [chunk b k]→iw N R M (dW (dg (z:Int) b' now) ε')∧N8 (dW (dg (z:Int) b' now) ε') ps b (k+1)∧(∀i:Nat,i∉ps→dW (dg (z:Int) b' now) ε' i=P0 i):=fun {ε' b'} hs mH=>by
   refine ⟨J.put (by rw [gS,ai (by omega),jd hs]) (by rw [gS,ai (by omega),jd hs]; exact J.marks) J.ml J.own J.hi,fun i w hi I => ?_,fun i hi => ?_⟩
   ·by_cases Ql:i=k
    ·subst Ql
     rw [hz] at I
     obtain rfl:=bI I
     rw [gS,au rfl]; exact mH
    ·have dh:(z:Int)≠(w:Int):=fun e=>by
      have e:z=w:=by omega
      subst e
      exact Ql ((List.getElem?_inj (List.getElem?_eq_some_iff.1 I).1 nC).1 (I.trans hz.symm))
     rw [gS,ai dh,jd hs]; exact Al i w (by omega) I
   ·rw [gS,ai (fun e=>hi (by rw [show i=z by omega]; exact aY hz)),jd hs]; exact qK i hi
  have next:∀(nx:Nat) (h:H) (E:List (Nat×V)) {Q':Ex→List (Nat×V)→H→Prop},nx=ps.getD (k+1) 0→nx<4294967296→Sat h (.arr 1 pv (bE ps)::GA g a p q r data bz now ε::X::S)→Has E [(0,.ptr g 0),(1,bv),(6,pv),(9,.int .i64 (k:Int)),(10,.int .i64 (z:Int)),(11,.int .i64 (nx:Int)),(40,pv),(41,.int .i64 (ps.length:Int)),(42,.int .i64 (k:Int))] →
    (∀ε' b6 E' h',EI N B ε'→Sm N ε ε'→NW N b6→iw N R M (dW b6 ε')→N8 (dW b6 ε') ps b (k+1)→(∀i:Nat,i∉ps→dW b6 ε' i=P0 i)→Has E' [(0,.ptr g 0),(1,bv),(6,pv),(40,pv),(41,.int .i64 (ps.length:Int)),(42,.int .i64 (k:Int))]→Sat h' (.arr 1 pv (bE ps)::GA g a p q r data bz b6 ε'::X::S)→Q' .normal E' h')→WP ⟨Tryz.prog,told⟩ 100 Ut E h Q':=fun nx h E Q' B0 XW s hE mZ =>
   Py hT hB hX oB yw (by omega) VE.2 XW fq hw s hE fun ε' b' E' h' g1 g2 g3 g4 g5 g6=>by
    subst B0
    obtain ⟨f1,f2,f3⟩:=fin g2 g4
    exact mZ ε' _ E' h' g1 g2 g3 f1 f2 f3 g5 g6
  refine WP.loop (WP.has hE (zg rfl (zt rfl (ag rfl rfl aP) (by simp; omega) ?_)))
  refine zk 5 rfl (WP.block (zK 3 rfl (zo rfl (cx (r:=.ptr id off) rfl rfl e1) (zl rfl (e2 _ dY) (zk 11 rfl (zb rfl (by exact bk (aA (by omega) (by omega))) ?_))))))
  refine zm rfl (zo rfl (aM rfl rfl rfl (s.dF (n:=ps.length) (j:=0) rfl hlen (by decide) bL)) ?_)
  by_cases hl:k+1<ps.length
  ·skip
   have I:ps[k+1]?=some (ps[k+1]'hl):=aN _
   have oI:ps[k+1]'hl=ps.getD (k+1) 0:=by rw [er,I]; rfl
   generalize (ps[k+1]'hl)=w at I oI
   have YI:=rM w (aY I)
   have Er:(bE ps)[k+1]?=some (.int .i64 (w:Int)):=by rw [bE,gJ,I]; rfl
   obtain ⟨ve,MT,e3,e4⟩:=gR (P:=Tryz.prog) s (k:=0) (i:=k+1) rfl Er bL kf
   refine zt rfl (ag rfl rfl aP) (by simp; omega) ?_
   refine zk 5 rfl (zb rfl (by exact bk (aA (by omega) (by omega))) ?_)
   refine zo rfl (cx (r:=.ptr ve MT) rfl rfl e3) (zl rfl (e4 _ dY) (zk 2 rfl ?_))
   refine next w _ _ oI (by omega) s ⟨rfl,rfl,rfl,rfl,rfl,rfl,rfl,rfl,rfl,aa⟩ (fun ε' b6 E' h' a1 a2 a3 a4 a5 a6 a7 s' => ?_)
   have s:=s'
   refine WP.has a7 (zr rfl (zb rfl (by exact bk (aA (by omega) (by omega))) ?_))
   refine zm rfl (zv ?_)
   exact ih (k+1) ε' b6 _ _ Q (by omega) a1 a3 a4 a5 a6 s ⟨rfl,rfl,rfl,rfl,rfl,rfl,aa⟩ fun kP yg E2 h2 g1 g2 g3 g4 g5 g6 g7 g8=>hq kP yg E2 h2 g1 (a2.trans g2) g3 g4 g5 g6 g7 g8
  ·have oI:0=ps.getD (k+1) 0:=by rw [er,pL (by omega)]; rfl
   refine zh rfl (ag rfl rfl aP) (by simp; omega) ?_
   refine zk 3 rfl ?_
   refine next 0 _ _ oI (by decide) s ⟨rfl,rfl,rfl,rfl,rfl,rfl,rfl,rfl,rfl,aa⟩ (fun ε' b6 E' h' a1 a2 a3 a4 a5 a6 a7 s' => ?_)
   have s:=s'
   refine WP.has a7 (zr rfl (zb rfl (by exact bk (aA (by omega) (by omega))) ?_))
   refine zm rfl (zv ?_)
   exact ih (k+1) ε' b6 _ _ Q (by omega) a1 a3 a4 a5 a6 s ⟨rfl,rfl,rfl,rfl,rfl,rfl,aa⟩ fun kP yg E2 h2 g1 g2 g3 g4 g5 g6 g7 g8=>hq kP yg E2 h2 g1 (a2.trans g2) g3 g4 g5 g6 g7 g8
end
end Go.Proofs.YtefepnnfphdkpaaGreat.Am
