/- ChainFull: a part of its proof; conditions: its statement's. -/
import Derived.Test.YtefepnnfphdkpaaGreatD32
set_option linter.defProp false
namespace Go.Proofs.YtefepnnfphdkpaaGreat.Am
open Go
def EY:=@Tryz.func50
theorem Uc {P:Program}{E:List (Nat×V)}{h:H}{a b c t t' I:Nat}{p q r u v w:V}(J:look E a=some p)(d1:loadV P h t p=some u)(h2:look E b=some q)(d2:loadV P h t' q=some v)(h3:look E c=some r)(d3:loadV P h I r=some w):
  jZ P E h [.cell a t,.cell b t',.cell c I]=some (.aX [u,v,w]):=by simp only [jZ,mapO,resE,J,d1,h2,d2,h3,d3]
structure EZ (v:V): Prop where
 cell:v.cells=[v]
 st:storable v=true
 bq:v.beq v=true
section
variable {told:cz} {h:H} {S:List aq} {X Y:aq} {N B n id p2 p3 p4 p5 p6:Nat} {v x y rv pv bv cv:V} {b l c R M:List Nat} {ps:List Nat} {cs:List (List Nat)} {A:aF→aq} {pg:aF→Int→List Nat} {ε:aF} {env:Env}
def YQ (id p4 p5:Nat)(env:Env)(I J:List Nat)(S:List aq)(v:V)(h:H): Prop:=v=.bool true∧∃pv bv,Sat h (pt id (.loop false 36 env [12,13] pE pF)::pt p4 (.cells 1 [pv] false)::pt p5 (.cells 1 [bv] false)::.arr 1 pv (bA I)::aU bv J::S)
theorem Nx (I:W told)(hv:EZ rv)(s:Sat h S): Call ⟨Tryz.prog,told⟩ 108 [rv,.int .i64 (n:Int)] h fun v h'=>∃p2 p3,v=.fn (.func 159) [] [.ptr p3 0,.ptr p2 0]∧Sat h' (pt p3 (.cells 1 [.int .i64 (n:Int)] false)::pt p2 (.cells 1 [rv] false)::S):=by
 refine Call.of_wp (I.free _ rfl) Tryz.func108 rfl rfl (zg rfl (az.cJ s rfl rfl rfl (fR rfl (by rw [hv.cell]; simp only [iB,i_,hv.st]; rfl)) ?_))
 intro p2 h s
 rw [hv.cell] at s
 have s:Sat h (pt p2 (.cells 1 [rv] false)::_):=s
 refine az.cJ s rfl rfl rfl (fR rfl rfl) (fun p3 h s => ?_)
 exact zk 4 rfl (zo rfl (H7 rfl rfl) (zk 2 rfl (WP.ret ⟨aa,_,rfl,p2,_,rfl,s⟩)))
noncomputable def YF : Code:=eC [1,1,0,0] ((Tryz.f159.body).getD .skip)
theorem I7 (hT:W told)(hR:mo told N B rv A pg)(hN:N≤65536)(nu:iq env [(4,.ptr p4 0),(5,.ptr p5 0)]): ∀(ps:List Nat) (p:Nat) (cs:List (List Nat)) (left:Nat) (dp db:List Nat) (pv bv:V) (ε:aF) (h:H) (E:List (Nat×V)) (Q:Ex→List (Nat×V)→H→Prop),EI N B ε→kx (pg ε) (p::ps) cs→(∀x∈p::ps,x<N)→ps.length+1≤left→left≤65536→dp.length+ps.length≤2000→db.length+(ps.length+1)*482≤1048576 →
  Sat h (pt id (.loop false 36 env [12,13] pE pF)::pt p4 (.cells 1 [pv] false)::pt p5 (.cells 1 [bv] false)::.arr 1 pv (bA dp)::aU bv db::A ε::pt p2 (.cells 1 [rv] false)::S)→Has E [(0,.u_ id),(2,.ptr p2 0),(4,.int .i64 (p:Int)),(5,.int .i64 (left:Int))] →
  (∀I J ε' E' h',EI N B ε'→Sm N ε ε'→Sat h' (pt id (.loop false 36 env [12,13] pE pF)::pt p4 (.cells 1 [I] false)::pt p5 (.cells 1 [J] false)::.arr 1 I (bA (dp++p::ps))::aU J (db++flatL cs)::A ε'::pt p2 (.cells 1 [rv] false)::S)→Q .ret E' h')→WP ⟨Tryz.prog,told⟩ 74 (.loop YF) E h Q:=by
 intro ps
 induction ps with
 | nil =>
  intro p cs left dp db pv bv ε h E Q eB hc aY hle WG OJ DJ s hE hq
  cases cs with
  | nil=>exact hc.elim
  | cons c cs =>
   obtain ⟨hp,lz⟩:=hc
   have iV:cs=[]:=j0 lz.len.symm
   subst iV
   have YG:=aY p ct
   have C7:=SQ hp
   have hl:=hp.len
   obtain ⟨ty,u0,f,rfl,hm,fU⟩:=hR.iface
   refine WP.loop (WP.has hE (zK 4 rfl (zt rfl (ag rfl rfl gA) (by simp; omega) ?_)))
   refine zk 4 rfl (WP.block (zg rfl (zl rfl (s.ld (k:=6) rfl RZ rfl) (zm rfl (az.any rfl rfl rfl (OpR.invoke rfl rfl rfl hm rfl (fU (n:=(p:Int)) eB (by omega) (by omega) (s.ae [5]))) ?_)))))
   rintro v h ⟨u,ε',rfl,pQ,hs,s⟩
   refine zk 10 rfl (zh rfl (ag rfl rfl aI) (rfl) (zk 6 rfl (zc rfl (xH hT s (bj _ _) (by omega)) ?_)))
   rintro v h ⟨s,(⟨hg,rfl⟩ | ⟨hg,rfl⟩)⟩
   ·rw [show (pg ε p).getD 12 0=203 from hp.kind,show cQ (pg ε p) 18 4=0 from hp.link,show cQ (pg ε p) 22 4=0+1 from hp.extra]
    refine zk 15 rfl (zc rfl (yT (i:=0) hT s (bj _ _) hp rfl) ?_)
    rintro v h ⟨u2,rfl,s⟩
    have zy:=(s.buf (k:=0) rfl).view.cells
    refine zk 10 rfl (zh rfl (ag rfl rfl aI) (by decide) ?_)
    refine zk 2 rfl (zh rfl (ag rfl rfl aI) (by decide) ?_)
    refine zk 3 rfl (zh rfl (ag rfl rfl aI) (by decide) ?_)
    refine zk 4 rfl (zh rfl (ag rfl rfl gA) (by simp; omega) ?_)
    have s:=s.ae [3,3,3,3,3,0]
    dsimp only [aZ,bringA,getA] at s
    refine zk 10 rfl (zo rfl (cM (r:=.agg [.int .i64 (p:Int),u2]) rfl (by rw [Of]; simp only [fillV,zy.1]; rfl)) ?_)
    have vr:=EX (told:=told) (E:=[(13,.int .i64 0),(12,.agg [.int .i64 (p:Int),u2]),(4,.ptr p4 0),(5,.ptr p5 0)]) (Q:=YQ id p4 p5 env (dp++[p]) (db++c) (aU u (pg ε p)::A ε'::pt p2 (.cells 1 [.iface ty u0] false)::S)) hT (by omega) (by omega) C7 s ⟨rfl,rfl,rfl,rfl,aa⟩ (fun I J h' s'=>⟨rfl,I,J,s'⟩)
    refine az.any rfl rfl rfl (OpR.yield (R:=YQ id p4 p5 env (dp++[p]) (db++c) (aU u (pg ε p)::A ε'::pt p2 (.cells 1 [.iface ty u0] false)::S)) rfl rfl rfl rfl (s.row (k:=0) rfl) rfl ((nu.set _ _).set _ _) vr) ?_
    rintro v h ⟨rfl,I,J,s⟩
    refine zo rfl (eY rfl rfl) (zk 2 rfl (zt rfl (ag rfl rfl yD) (by decide) ?_))
    refine zk 3 rfl (WP.ret ?_)
    have s:=s.ae [0,0,0,0,0,1,1]
    dsimp only [bringA,getA,aZ] at s
    refine hq I J ε' _ _ pQ hs ?_
    have e:flatL [c]=c:=by simp [flatL]
    rw [e]
    exact s.del 7
   ·rw [hp.good] at hg; cases hg
 | cons q ps ih =>
  intro p cs left dp db pv bv ε h E Q eB hc aY hle WG OJ DJ s hE hq
  cases cs with
  | nil=>exact hc.elim
  | cons c cs =>
   obtain ⟨hp,lz⟩:=hc
   have YG:=aY p ct
   have C7:=SQ hp
   have hl:=hp.len
   simp only [aN] at hle OJ DJ
   obtain ⟨ty,u0,f,rfl,hm,fU⟩:=hR.iface
   refine WP.loop (WP.has hE (zK 4 rfl (zt rfl (ag rfl rfl gA) (by simp; omega) ?_)))
   refine zk 4 rfl (WP.block (zg rfl (zl rfl (s.ld (k:=6) rfl RZ rfl) (zm rfl (az.any rfl rfl rfl (OpR.invoke rfl rfl rfl hm rfl (fU (n:=(p:Int)) eB (by omega) (by omega) (s.ae [5]))) ?_)))))
   rintro v h ⟨u,ε',rfl,pQ,hs,s⟩
   have hqN:=aY q (cr _ ct)
   refine zk 10 rfl (zh rfl (ag rfl rfl aI) (rfl) (zk 6 rfl (zc rfl (xH hT s (bj _ _) (by omega)) ?_)))
   rintro v h ⟨s,(⟨hg,rfl⟩ | ⟨hg,rfl⟩)⟩
   ·rw [show (pg ε p).getD 12 0=203 from hp.kind,show cQ (pg ε p) 18 4=q from hp.link,show cQ (pg ε p) 22 4=ps.length+1+1 from hp.extra]
    refine zk 15 rfl (zc rfl (yT (i:=0) hT s (bj _ _) hp rfl) ?_)
    rintro v h ⟨u2,rfl,s⟩
    have zy:=(s.buf (k:=0) rfl).view.cells
    refine zk 10 rfl (zh rfl (ag rfl rfl aI) (by decide) ?_)
    refine zk 2 rfl (zh rfl (ag rfl rfl aI) (by decide) ?_)
    refine zk 3 rfl (zh rfl (ag rfl rfl aI) (by decide) ?_)
    refine zk 4 rfl (zh rfl (ag rfl rfl gA) (by simp; omega) ?_)
    have s:=s.ae [3,3,3,3,3,0]
    dsimp only [aZ,bringA,getA] at s
    refine zk 10 rfl (zo rfl (cM (r:=.agg [.int .i64 (p:Int),u2]) rfl (by rw [Of]; simp only [fillV,zy.1]; rfl)) ?_)
    have vr:=EX (told:=told) (E:=[(13,.int .i64 0),(12,.agg [.int .i64 (p:Int),u2]),(4,.ptr p4 0),(5,.ptr p5 0)]) (Q:=YQ id p4 p5 env (dp++[p]) (db++c) (aU u (pg ε p)::A ε'::pt p2 (.cells 1 [.iface ty u0] false)::S)) hT (by omega) (by omega) C7 s ⟨rfl,rfl,rfl,rfl,aa⟩ (fun I J h' s'=>⟨rfl,I,J,s'⟩)
    refine az.any rfl rfl rfl (OpR.yield (R:=YQ id p4 p5 env (dp++[p]) (db++c) (aU u (pg ε p)::A ε'::pt p2 (.cells 1 [.iface ty u0] false)::S)) rfl rfl rfl rfl (s.row (k:=0) rfl) rfl ((nu.set _ _).set _ _) vr) ?_
    rintro v h ⟨rfl,I,J,s⟩
    refine zo rfl (eY rfl rfl) (zk 2 rfl (zh rfl (ag rfl rfl yD) (by simp; omega) ?_))
    refine zp rfl (zv (zj rfl (WP.skip (zr rfl (zk 4 rfl (zv (zr rfl (zm rfl (zo rfl (ag (r:=.int .i64 ((ps.length+1:Nat):Int)) rfl rfl (by rw [show (((ps.length+1:Nat)):Int)=((ps.length+1+1:Nat):Int)-1 by omega]; exact jj (aA (by omega) (by omega)))) ?_)))))))))
    refine za rfl (zv ?_)
    have s:=s.ae [0,0,0,0,0,1,1]
    have e1:dp++p::q::ps=(dp++[p])++q::ps:=by simp
    have e2:db++flatL (c::cs)=(db++c)++flatL cs:=by simp [flatL]
    refine ih q cs (ps.length+1) (dp++[p]) (db++c) I J ε' _ _ Q pQ (lz.of fun x _=>hR.same hs x) (fun x hx=>aY x (cr _ hx)) (aD _) (by omega) (by rw [bD,aN,bG]; omega) (by rw [bD]; omega) (s.del 7) ⟨rfl,rfl,rfl,rfl,aa⟩ (fun SR YH iI E2 h2 g1 g2 g3=>hq SR YH iI E2 h2 g1 (hs.trans g2) ?_)
    rw [e1,e2]; exact g3
   ·rw [hp.good] at hg; cases hg
end
structure WC (told:cz): Prop where
 w:W told
 fmt:told 31=some (lM Tryz.prog 31 (ES 31))
 all:told 50=some (lM Tryz.prog 50 (I6 50))
section
variable {told:cz} {h:H} {S:List aq} {X Y:aq} {N B n id p2 p3 p4 p5 p6:Nat} {v x y rv pv bv cv:V} {b l c R M:List Nat} {ps:List Nat} {cs:List (List Nat)} {A:aF→aq} {pg:aF→Int→List Nat} {ε:aF} {env:Env}
theorem Lw (hT:W told)(hR:mo told N B rv A pg)(hN:N≤65536)(I:iq env [(4,.ptr p4 0),(5,.ptr p5 0)]){p:Nat}(J:EI N B ε)(hc:kx (pg ε) (p::ps) cs)(aY:∀x∈p::ps,x<N)(hl:ps.length≤1000)
 (s:Sat h (pt id (.loop false 36 env [12,13] pE pF)::pt p4 (.cells 1 [.bn] false)::pt p5 (.cells 1 [.bn] false)::A ε::pt p2 (.cells 1 [rv] false)::pt p3 (.cells 1 [.int .i64 (p:Int)] false)::S)):
  Call ⟨Tryz.prog,told⟩ 159 [.u_ id,.ptr p3 0,.ptr p2 0] h fun v h'=>∃pv bv ε',EI N B ε'∧Sm N ε ε'∧Sat h' (pt id (.loop false 36 env [12,13] pE pF)::pt p4 (.cells 1 [pv] false)::pt p5 (.cells 1 [bv] false)::.arr 1 pv (bA (p::ps))::aU bv (flatL cs)::A ε'::pt p2 (.cells 1 [rv] false)::pt p3 (.cells 1 [.int .i64 (p:Int)] false)::S):=by
 refine Call.of_wp (hT.free _ rfl) Tryz.func159 rfl rfl (zg rfl (zl rfl (s.ld (k:=5) rfl dS rfl) (zk 6 rfl (WP.block ?_))))
 have s:=(s.mB (k:=1)).DR
 have s:=s.ae [2,2,2,1,0]
 refine I7 hT hR hN I ps p cs 65536 [] [] .bn .bn ε _ _ _ J hc aY (by omega) (aD _) (by rw [bG]; omega) (by rw [bG]; omega) s ⟨rfl,rfl,rfl,rfl,aa⟩ (fun pv bv ε' E' h' g1 g2 g3=>⟨aa,_,rfl,pv,bv,ε',g1,g2,g3⟩)
theorem SS (hR:mo mH N B rv A pg)(hv:EZ rv)(hN:N≤65536){p:Nat}(eB:EI N B ε)(hc:kx (pg ε) (p::ps) cs)(aY:∀x∈p::ps,x<N)(hl:ps.length≤1000)(lF:(flatL cs).length≤1048576)(s:Sat h (A ε::S)):
  ∃v h2,(∃N0,∀n,N0≤n→toldRange CB n 50 [rv,.int .i64 (p:Int)] h=some (v,h2))∧(∃w u ε',v=.aX [w,u,.int .i64 0]∧EI N B ε'∧Sm N ε ε'∧Sat h2 (.arr 1 w (bA (p::ps))::aU u (flatL cs)::A ε'::S)):=by
 have hT:=W.base
 refine EW (C:=CB) (a:=YC) (b:=YD) (t:=YE) (lS:=pE) (bd:=pF) (kD:=0) (g:=159) (x:=.tmp 11) (ps := #[12,13]) EY rfl rfl (by kernel_rfl) ?_
 refine zr rfl ?_
 refine az.cJ s rfl rfl rfl (cE VX) (fun p4 h s => ?_)
 dsimp only [V.cells,List.length_cons,List.length_nil,Nat.reduceAdd] at s
 refine az.cJ s rfl rfl rfl (cE oz) (fun p5 h s => ?_)
 dsimp only [V.cells,List.length_cons,List.length_nil,Nat.reduceAdd] at s
 refine az.cJ s rfl rfl rfl (cE VW) (fun p6 h s => ?_)
 dsimp only [V.cells,List.length_cons,List.length_nil,Nat.reduceAdd] at s
 refine zv ?_
 refine ⟨rfl,?_⟩
 refine zr rfl (zm rfl (zm rfl (az.call rfl rfl rfl rfl rfl rfl rfl (Nx hT hv s) ?_)))
 rintro v h ⟨p2,p3,rfl,s⟩
 refine zv ?_
 refine ⟨rfl,_,rfl,fun env J => ?_⟩
 have s:=s.new (.loop false 36 env [12,13] pE pF)
 have s:=s.ae [0,4,3,3,1,0,0]
 dsimp only [bringA,getA,aZ] at s
 obtain ⟨u,h3,Cf,pv,bv,ε',pQ,hs,s⟩:=Lw hT hR hN (J.sub (Has.sub (F:=[(4,.ptr p4 0),(5,.ptr p5 0)]) ⟨rfl,rfl,aa⟩)) eB hc aY hl s
 refine ⟨u,h3,Cf,s.row (k:=0) rfl,?_⟩
 have s:=s.kill
 generalize h3.put h.next none=h at s ⊢
 have Vk:=s.kV (j:=2) rfl
 have I:=jd (s.buf (k:=3) rfl).view
 have hlen:(bA (p::ps)).length=(p::ps).length*1:=by rw [eL,cC]
 have UU:(p::ps).length≤1001:=by rw [aN]; omega
 obtain ⟨i1,iy,fF,pP⟩:=mN
 refine zw ?_
 have s0:=s
 refine WP.drawn [ak,ak,ak,some (0,2),none,some (0,3),some (0,3),none,some (0,4),ak,ak,ak,ak] rfl (by kernel_rfl) (by kernel_rfl) ?_
 refine zL rfl (by exact s.ld (k:=0) rfl mK rfl) ?_
 refine zO rfl (aO rfl rfl rfl (s.dJ (n:=(p::ps).length) (j:=2) rfl hlen (by decide) bO)) ?_
 obtain ⟨wv,h1,e3,s1⟩:=oS (P:=Tryz.prog) s bO iy tG fF (by omega) rfl (by decide) (by decide) (n:=0) (c:=(p::ps).length) (by omega) (by omega)
 refine aB.any rfl rfl rfl rfl (OpR.of (R:=fun v h'=>v=wv∧h'=h1) (qb rfl rfl e3) ⟨rfl,rfl⟩) ?_
 rintro w0 h ⟨rfl,rfl⟩
 have s:Sat h (.arr 1 w0 []::_):=s1
 have s:=s.ae [1,1,1,1,0]
 dsimp only [bringA,getA,aZ] at s
 have s1:=s
 obtain ⟨w3,h2,e4,s2⟩:=fS (s.ae [4,2]) bO iy tG fF (by omega) rfl (by decide) (by rw [hlen,bG]; omega)
 rw [c_] at s2
 dsimp only [bringA,getA,aZ] at s2
 refine zL rfl (by exact s.ld (k:=0) rfl mK rfl) ?_
 refine aB.any rfl rfl rfl rfl (OpR.of (R:=fun v h'=>v=w3∧h'=h2) (jL rfl rfl e4) ⟨rfl,rfl⟩) ?_
 rintro w3 h ⟨rfl,rfl⟩
 have s:=s2.ae [2,2,1,1,0]
 dsimp only [bringA,getA,aZ] at s
 have s2:=s
 refine zL rfl (by exact s.ld (k:=1) rfl bK rfl) ?_
 refine zO rfl (aO rfl rfl rfl (aW aJ (s.aG (k:=3) rfl (bj _ _)))) (aB.any rfl rfl rfl rfl (OpR.rq rfl s rfl rfl rfl rfl (by omega)) ?_)
 intro u2 h s
 have s:=s.ae [1,1,1,1,1,0]
 dsimp only [bringA,getA,aZ] at s
 have s3:=s
 refine zL rfl (by exact s.ld (k:=1) rfl bK rfl) ?_
 refine aB.any rfl rfl rfl rfl (OpR.pI rfl (s.ae [5,3]) (bj _ _) rfl rfl rfl rfl (by rw [bG]; omega)) ?_
 intro u3 h s
 rw [c_] at s
 have s:=s.ae [2,2,2,1,1,0]
 dsimp only [bringA,getA,aZ] at s
 have Lv:=s.kV (j:=4) rfl
 have Ey:=(s.buf (k:=5) rfl).view.cells
 refine aB.ki rfl rfl rfl (OpR.tF rfl rfl rfl (s.iX (k:=0) rfl Mn rfl (by decide) Lv.1 Lv.2.1)) ?_
 rintro v h ⟨rfl,s⟩
 dsimp only [setA,List.set] at s
 refine aB.ki rfl rfl rfl (OpR.tF rfl rfl rfl (s.iX (k:=1) rfl kI rfl (by decide) Ey.1 Ey.2)) ?_
 rintro v h ⟨rfl,s⟩
 dsimp only [setA,List.set] at s
 refine aB.ki rfl rfl rfl (OpR.tF rfl rfl rfl (s.iX (k:=9) rfl VU rfl (by decide) rfl rfl)) ?_
 rintro v h ⟨rfl,s⟩
 dsimp only [setA,List.set] at s
 refine aB.nil ⟨⟨aa,aa,aa,eZ (.inr ⟨rfl,⟨_,aS rfl (by exact s0.ld (k:=0) rfl mK rfl)⟩,Vk.2.2⟩) (.inr ⟨rfl,⟨_,aS rfl (by exact s1.ld (k:=0) rfl mK rfl)⟩,Vk.2.2⟩),aa,oR (.inr ⟨rfl,⟨_,aS rfl (by exact s0.ld (k:=1) rfl bK rfl)⟩,I⟩) (.inr ⟨rfl,⟨_,aS rfl (by exact s1.ld (k:=1) rfl bK rfl)⟩,I⟩) (.inr ⟨rfl,⟨_,aS rfl (by exact s2.ld (k:=1) rfl bK rfl)⟩,I⟩),oR (.inr ⟨rfl,⟨_,aO rfl rfl rfl (aW aJ (s0.aG (k:=3) rfl (bj _ _)))⟩,bP _ rfl⟩) (.inr ⟨rfl,⟨_,aO rfl rfl rfl (aW aJ (s1.aG (k:=3) rfl (bj _ _)))⟩,bP _ rfl⟩) (.inr ⟨rfl,⟨_,aO rfl rfl rfl (aW aJ (s2.aG (k:=3) rfl (bj _ _)))⟩,bP _ rfl⟩),aa,Ka (.inr ⟨rfl,⟨_,aS rfl (by exact s0.ld (k:=1) rfl bK rfl)⟩,I⟩) (.inr ⟨rfl,⟨_,aS rfl (by exact s1.ld (k:=1) rfl bK rfl)⟩,I⟩) (.inr ⟨rfl,⟨_,aS rfl (by exact s2.ld (k:=1) rfl bK rfl)⟩,I⟩) (.inr ⟨rfl,⟨_,aS rfl (by exact s3.ld (k:=1) rfl bK rfl)⟩,I⟩),aa,aa,aa,aa,aa⟩,?_⟩
 refine WP.ret ?_
 refine ⟨aa,_,Uc rfl (s.ld (k:=0) rfl mK rfl) rfl (s.ld (k:=1) rfl bK rfl) rfl (s.ld (k:=9) rfl VV rfl),_,_,ε',rfl,pQ,hs,?_⟩
 exact (((((((s.ae [4,4,4]).del 9).del 8).del 7).del 6).del 5).del 4).del 3
theorem E0 (hT:WC told)(hR:mo mH N B rv A pg)(hv:EZ rv)(hN:N≤65536){p:Nat}(I:EI N B ε)(hc:kx (pg ε) (p::ps) cs)(J:∀x∈p::ps,x<N)(hl:ps.length≤1000)(lF:(flatL cs).length≤1048576)(s:Sat h (A ε::S)):
  Call ⟨Tryz.prog,told⟩ 50 [rv,.int .i64 (p:Int)] h fun v h'=>∃w u ε',v=.aX [w,u,.int .i64 0]∧EI N B ε'∧Sm N ε ε'∧Sat h' (.arr 1 w (bA (p::ps))::aU u (flatL cs)::A ε'::S) :=
 Call.range hT.all EY rfl (SS hR hv hN I hc J hl lF s)
theorem E3 (hT:WC told)(hR:mo mH N B rv A pg)(hv:EZ rv)(hN:N≤65536){p:Nat}(J:EI N B ε)(hc:kx (pg ε) (p::ps) cs)(aY:∀x∈p::ps,x<N)(hl:ps.length≤1000)(lF:(flatL cs).length≤1048576)(s:Sat h (A ε::S)):
  Call ⟨Tryz.prog,told⟩ 19 [rv,.int .i64 (p:Int)] h fun v h'=>∃u ε',v=.aX [u,.int .i64 0]∧EI N B ε'∧Sm N ε ε'∧Sat h' (aU u (flatL cs)::A ε'::S):=by
 refine Call.of_wp (hT.w.free _ rfl) Tryz.func19 rfl rfl (zK 9 rfl (zc rfl (E0 hT hR hv hN J hc aY hl lF s) ?_))
 rintro v h ⟨w,u,ε',rfl,I,hs,s⟩
 exact zk 15 rfl (WP.ret ⟨aa,_,rfl,u,ε',rfl,I,hs,s.drop⟩)
theorem Lx (hT:WC told)(hR:mo mH N B rv A pg)(hv:EZ rv)(hN:N≤65536){p:Nat}(J:EI N B ε)(hc:kx (pg ε) (p::ps) cs)(aY:∀x∈p::ps,x<N)(hl:ps.length≤1000)(lF:(flatL cs).length≤1048576)(s:Sat h (A ε::S)):
  Call ⟨Tryz.prog,told⟩ 18 [rv,.int .i64 (p:Int)] h fun v h'=>∃w ε',v=.aX [w,.int .i64 0]∧EI N B ε'∧Sm N ε ε'∧Sat h' (.arr 1 w (bA (p::ps))::A ε'::S):=by
 refine Call.of_wp (hT.w.free _ rfl) Tryz.func18 rfl rfl (zK 9 rfl (zc rfl (E0 hT hR hv hN J hc aY hl lF s) ?_))
 rintro v h ⟨w,u,ε',rfl,I,hs,s⟩
 exact zk 15 rfl (WP.ret ⟨aa,_,rfl,w,ε',rfl,I,hs,s.del 1⟩)
def jq (n:Nat): Nat:=if n=0 then 1 else (n-1)/480+1
theorem tT (I:W told){n:Int}(J:n<9223372036854775808): Call ⟨Tryz.prog,told⟩ 12 [.int .i64 n] h fun v h'=>v=.int .i64 (jq n.toNat:Nat)∧h'=h:=by
 refine Call.of_wp (I.free _ rfl) Tryz.func12 rfl rfl (zK 8 rfl ?_)
 by_cases h0:n≤0
 ·skip
  refine zt rfl (ag rfl rfl yD) (by simp; omega) ?_
  exact zk 6 rfl (WP.ret ⟨aa,_,rfl,by rw [show n.toNat=0 by omega]; rfl,rfl⟩)
 ·obtain ⟨m,rfl⟩:∃m:Nat,n=(m:Int)+1:=⟨n.toNat-1,by omega⟩
  have hm:(m:Int)+1-1=(m:Int):=by omega
  have hd:m/480≤m:=sY _ _
  refine zh rfl (ag rfl rfl yD) (by simp <;> omega) ?_
  refine zk 6 rfl (zo rfl (ag (r:=.int .i64 (m:Int)) rfl rfl ((jj (a:=(m:Int)+1) (b:=1) (aA (by omega) (by omega))).trans (by rw [hm]))) ?_)
  refine zb rfl (uG (a:=m) (b:=480) (by decide) (by omega)) ?_
  refine zb rfl (by exact bp (aA (by omega) (by omega))) ?_
  exact zk 2 rfl (WP.ret ⟨aa,_,rfl,by rw [jq,ai (by omega),show ((m:Int)+1).toNat-1=m by omega]; rfl,rfl⟩)
end
section
variable {told:cz} {h:H} {S:List aq} {X Y:aq} {N B n:Nat} {v x y rv:V} {b l c R M:List Nat} {kd link extra kB:Nat} {cs:List (List Nat)} {A:aF→aq} {pg:aF→Int→List Nat} {ε:aF}
def kH (f:Nat→Bool)(k:Nat): List Nat:=(List.range k).filter f
theorem E5 {f:Nat→Bool}{k:Nat}: kH f (k+1)=if f k then kH f k++[k] else kH f k:=by
 unfold kH
 rw [Bg,List.filter_append]
 cases h:f k with
 | true=>simp [h]
 | false=>simp [h]
theorem Hp {f:Nat→Bool}{k:Nat}: (kH f k).length≤k:=by
 unfold kH
 exact cg (wL _ _) (by rw [sV]; exact aD _)
theorem yX {k:Nat}(s:Sat h (.arr 1 v (bA l)::S))(hl:l.length≤1048576):
  ∃I J w h2,buildSliceV Tryz.prog h 33 1 [(0,.int .i64 (k:Int))]=some (I,J)∧appendV Tryz.prog J #[33,33] v I=some (w,h2)∧Sat h2 (.arr 1 w (bA (l++[k]))::S):=by
 obtain ⟨I,J,e1,s1⟩:=ku (P:=Tryz.prog) (k:=1) (x:=.int .i64 (k:Int)) s bO tG kC rfl (by decide) (by decide) rfl rfl
 obtain ⟨i1,iy,fF,pP⟩:=mN
 obtain ⟨w,h2,e2,s2⟩:=fS (s1.ae [1,0]) bO iy tG fF (by omega) rfl (by decide) (by simp only [eL,V.cells,aN,bG]; omega)
 refine ⟨I,J,w,h2,e1,e2,?_⟩
 have e:bA (l++[k])=bA l++[.int .i64 (k:Int)]:=by simp [bA]
 rw [e]
 exact s2.del 1
noncomputable def YI : Code:=eC [1,1,1,1,0,1,0,0,1,1,0,0,1,1,1,1,0,0] ((Tryz.f25.body).getD .skip)
theorem Lz (hT:W told){u:V}(OB:M.length=375)(hn:n≤3000): ∀(m k:Nat) (v:V) (h:H) (E:List (Nat×V)) (Q:Ex→List (Nat×V)→H→Prop),k+m=n →
  Sat h (.arr 1 v (bA (kH (bt M) k))::aU u M::S)→Has E [(7,v),(8,.int .i64 0),(10,u),(24,.int .i64 1),(25,.int .i64 0),(42,.int .i64 (n:Int)),(43,.int .i64 (k:Int))] →
  (∀v' E' h',Has E' [(7,v'),(24,.int .i64 1),(25,.int .i64 0)]→Sat h' (.arr 1 v' (bA (kH (bt M) n))::aU u M::S)→Q (.exit 2) E' h')→WP ⟨Tryz.prog,told⟩ 70 (.loop YI) E h Q:=by
 intro m
 induction m with
 | zero =>
  intro k v h E Q hk s hE hq
  refine WP.loop (WP.has hE (zg rfl (zh rfl (ag rfl rfl aR) (by simp; omega) ?_)))
  refine zk 3 rfl (WP.exit ?_)
  obtain rfl:k=n:=by omega
  exact hq v _ _ ⟨rfl,rfl,rfl,aa⟩ s
 | succ m ih =>
  intro k v h E Q hk s hE hq
  have hb:M[k/8]?=some (M[k/8]'(by omega)):=aM _
  have J:M.getD (k/8) 0=M[k/8]'(by omega):=by rw [dN,hb]; rfl
  generalize (M[k/8]'(by omega))=x at hb J
  have hv:=(s.buf (k:=1) rfl).view
  have hx:x<256:=hv.1 x (aV hb)
  have wB:x.testBit (k%8)=bt M k:=by rw [bt,J]
  obtain ⟨id,off,e1,e2⟩:=dI hv hb
  have GL:x/2^(k%8)<256:=A8 (sY _ _) hx
  have OB:=Hp (f:=bt M) (k:=k)
  refine WP.loop (WP.has hE (zg rfl (zt rfl (ag rfl rfl aR) (by simp; omega) ?_)))
  refine zk 5 rfl (WP.block (zK 9 rfl (zb rfl (uG (a:=k) (b:=8) (by decide) (by omega)) ?_)))
  refine zo rfl (cn (r:=.ptr id off) rfl rfl e1) (zl rfl e2 (zm rfl (zb rfl (BW (a:=k) (b:=8) (by decide)) ?_)))
  refine zb rfl (Lc (a:=x) (k:=k%8) (by omega)) ?_
  refine zb rfl (Ld (b:=1) GL (by decide)) ?_
  cases I:bt M k with
  | true =>
   refine zt rfl (ag rfl rfl EF) (wB.trans I) (zk 5 rfl (zb rfl (by exact jQ (aA (by omega) (by omega))) ?_))
   refine zm rfl (zb rfl (by exact bp (aA (by omega) (by omega))) ?_)
   obtain ⟨iv,h1,w,h2,e3,e4,s2⟩:=yX (k:=k) s (by omega)
   have ek:(3000:Int)*0+(k:Int)=(k:Int):=by omega
   rw [ek]
   refine az.any rfl rfl rfl (OpR.of (R:=fun v h'=>v=iv∧h'=h1) (kg rfl e3) ⟨rfl,rfl⟩) ?_
   rintro iv h1 ⟨rfl,rfl⟩
   refine az.any rfl rfl rfl (OpR.of (R:=fun v h'=>v=w∧h'=h2) (jL rfl rfl e4) ⟨rfl,rfl⟩) ?_
   rintro w h2 ⟨rfl,rfl⟩
   refine za rfl (zv (zr rfl (zb rfl (by exact bp (aA (by omega) (by omega))) ?_)))
   refine zm rfl (zv ?_)
   exact ih (k+1) _ _ _ Q (by omega) (by rw [E5,I,ax rfl]; exact s2) ⟨rfl,rfl,rfl,rfl,rfl,rfl,rfl,aa⟩ hq
  | false =>
   refine zh rfl (ag rfl rfl EF) (wB.trans I) (zv (zj rfl (WP.skip (zr rfl (zb rfl (by exact bp (aA (by omega) (by omega))) ?_)))))
   refine zm rfl (zv ?_)
   exact ih (k+1) _ _ _ Q (by omega) (by rw [E5,I,ai (by decide)]; exact s) ⟨rfl,rfl,rfl,rfl,rfl,rfl,rfl,aa⟩ hq
theorem Ny (hT:W told)(hR:mo told N B rv A pg)(eB:EI N B ε)(hN:2≤N)(J:eR n R M (pg ε))(s:Sat h (A ε::S)):
  Call ⟨Tryz.prog,told⟩ 25 [rv] h fun v h'=>∃w ε',v=.aX [w,.int .i64 0]∧EI N B ε'∧Sm N ε ε'∧Sat h' (.arr 1 w (bA (kH (bt M) n))::A ε'::S):=by
 obtain ⟨ex,ny⟩:=J.head
 obtain ⟨kd,lk,kB,I⟩:=J.marks
 have hM:=J.ml
 have mj:=J.n2
 have vT:=J.n1
 have OB:=Hp (f:=bt M) (k:=n)
 refine Call.of_wp (hT.free _ rfl) Tryz.func25 rfl rfl (zK 8 rfl (zc rfl (qN hT hR eB (by omega) ny J.rl s) ?_))
 rintro v h ⟨u,kY,rfl,kO,gi,s⟩
 refine zk 12 rfl (zh rfl (ag rfl rfl aI) (rfl) (zk 11 rfl (zc rfl (rK hT (by omega) (by omega)) ?_)))
 rintro v h' ⟨rfl,rfl⟩
 refine zb rfl (by exact jj (aA (by omega) (by omega))) ?_
 refine zk 2 rfl (WP.block (WP.loop (zg rfl (zt rfl (ag rfl rfl aR) (by decide) ?_))))
 have I:dF (pg kY 1) kd lk kB [M]:=by rw [hR.same gi]; exact I
 refine zk 5 rfl (WP.block (zK 9 rfl (zc rfl (oH hT hR kO hN I hM (s.ae [1])) ?_)))
 rintro v h ⟨w2,u2,iI,rfl,jW,gu,s⟩
 refine zk 12 rfl (zh rfl (ag rfl rfl aI) (rfl) (zk 7 rfl (zb rfl (by exact jQ (aA (by omega) (by omega))) ?_)))
 refine zb rfl (by exact jj (aA (by omega) (by omega))) ?_
 have em:min (3000:Int) ((n:Int)-3000*0)=(n:Int):=by omega
 refine zo rfl (DS (r:=.int .i64 (n:Int)) rfl rfl (I1.trans (by rw [em]))) ?_
 refine zk 2 rfl (WP.block ?_)
 have s:=s.mB (k:=1)
 refine Lz hT hM (by omega) n 0 _ _ _ _ (by omega) s ⟨rfl,rfl,rfl,rfl,rfl,rfl,rfl,aa⟩ (fun v' E' h' hE s' => ?_)
 have s:=s'
 refine WP.has hE (zr rfl (zb rfl (by exact bp (aA (by omega) (by omega))) ?_))
 refine zm rfl (zv (WP.loop (zg rfl (zh rfl (ag rfl rfl aR) (by decide) ?_))))
 refine zk 3 rfl (WP.exit (zK 3 rfl (zo rfl (aO rfl rfl rfl (s.dJ (n:=(kH (bt M) n).length) (j:=0) rfl (by rw [eL,cC]) (by decide) bO)) ?_)))
 obtain ⟨i1,iy,fF,pP⟩:=mN
 obtain ⟨wv,h1,e3,s1⟩:=oS (P:=Tryz.prog) s bO iy tG fF (by omega) rfl (by decide) (by decide) (n:=0) (c:=(kH (bt M) n).length) (by omega) (by omega)
 refine az.any rfl rfl rfl (OpR.of (R:=fun v h'=>v=wv∧h'=h1) (qb rfl rfl e3) ⟨rfl,rfl⟩) ?_
 rintro w0 h ⟨rfl,rfl⟩
 have s:Sat h (.arr 1 w0 []::_):=s1
 obtain ⟨w3,h2,e4,s2⟩:=fS s bO iy tG fF (by omega) rfl (by decide) (by simp only [eL,bG]; omega)
 rw [c_] at s2
 refine zm rfl (az.any rfl rfl rfl (OpR.of (R:=fun v h'=>v=w3∧h'=h2) (jL rfl rfl e4) ⟨rfl,rfl⟩) ?_)
 rintro w3 h ⟨rfl,rfl⟩
 exact zk 3 rfl (WP.ret ⟨aa,_,rfl,_,iI,rfl,jW,gi.trans gu,(((((s2.ae [0,3]).del 5).del 4).del 3).del 2)⟩)
end
section
variable {P:Program} {h:H} {S:List aq} {j i k:Nat} {v c x:V} {cs:List V} {t te t':TypeId}
end
structure WS (told:cz): Prop where
 w:W told
 fmt:told 31=some (lM Tryz.prog 31 (ES 31))
theorem Hq {f:Nat→Bool}{k m:Nat}: (kH f (k+m)).length=(kH f k).length+((List.range m).filter fun i=>f (k+i)).length:=by
 unfold kH
 rw [List.range_add,List.filter_append,bD,List.filter_map,er]
 rfl
theorem Nz {M:List Nat}: ∀k,k≤M.length→(kH (bt M) (8*k)).length=onesL (M.take k):=by
 intro k
 induction k with
 | zero=>intro _; rfl
 | succ k ih =>
  intro hk
  have J:M[k]?=some (M[k]'(by omega)):=aM _
  have I:M.getD k 0=M[k]'(by omega):=by rw [dN,J]; rfl
  rw [show 8*(k+1)=8*k+8 by omega,Hq,ih (by omega),AR J]
  congr 1
  unfold qi
  congr 1
  refine List.filter_congr fun i hi => ?_
  rw [xJ (List.mem_range.1 hi),I]
theorem E6 {f:Nat→Bool}{n m:Nat}(h:∀j,n≤j→f j=false): (kH f (n+m)).length=(kH f n).length:=by
 rw [Hq]
 have:((List.range m).filter fun i=>f (n+i))=[]:=List.filter_eq_nil_iff.2 fun i _=>by rw [h _ (by omega)]; decide
 rw [this]; rfl
theorem eR.WH {n:Nat}{R M:List Nat}{P:Int→List Nat}(h:eR n R M P): onesL M=(kH (bt M) n).length:=by
 have I:=Nz (M:=M) 375 (by rw [h.ml]; exact aD _)
 rw [dG (by rw [h.ml]; exact aD _)] at I
 rw [←I,show 8*375=n+(3000-n) by have:=h.n2; omega,E6 h.hi]
theorem LA {f g:Nat→Bool}{n:Nat}(h:∀i,i<n→f i=g i): kH f n=kH g n:=List.filter_congr fun i hi=>h i (List.mem_range.1 hi)
section
variable {told:cz} {h:H} {S:List aq} {X Y:aq} {N B n g a p q r bf:Nat} {v w x y rv uv:V} {Rt:List V} {U:List Bool} {b l c R M data L:List Nat} {A:aF→aq} {pg:aF→Int→List Nat} {ε:aF}
theorem LB (hT:WS told){K:Nat}{m:Nat}(hB:B≤800)(I:EI N B ε)(hN:4≤N)(J:N≤1000)(hz:(pgA ε 0).length=512)(hg:bV (pgA ε 0)=false)(hd:sk K m ε)(hf:K+520*N+28≤m)(s:Sat h (SA a p q r .cO data bf ε::S)):
  Call ⟨Tryz.prog,told⟩ 31 [.ptr a 0] h fun v h'=>v=.int .i64 0∧∃ε',EI N (B+2) ε'∧eR N (List.replicate 64 0) pq (pgA ε')∧sk (K+520*N+28) m ε'∧Sat h' (SA a p q r .cO data bf ε'::S) :=
 Call.defer hT.fmt ET rfl (Lt hB I hN J hz hg hd hf s)
theorem uY (hT:WS told){m f:Nat}(hN:4≤n)(CF:n≤1000)(hm:m≤16777216)(hf:520*n+28≤m)(h4:1≤f)(h5:f≤1024)(s:Sat h S):
  Call ⟨Tryz.prog,told⟩ 14 [.int .i64 (n:Int),.int .i64 (m:Int),.int .i64 (f:Int)] h fun v h'=>∃p a q r ε,v=.ptr a 0∧EI n 3 ε∧eR n (List.replicate 64 0) pq (pgA ε)∧sk (520*n+28) m ε∧Sat h' (SA a p q r .cO [] 0 ε::S):=by
 have I:bV (List.replicate 512 0)=false:=by decide +kernel
 refine Call.of_wp (hT.w.free _ rfl) Tryz.func14 rfl rfl (zK 9 rfl (zc rfl (IS (n:=n) (m:=m) (f:=f) hT.w s (by omega) (by omega) hm h4 h5) ?_))
 rintro v h ⟨p,a,q,r,rfl,s⟩
 have s:Sat h (SA a p q r .cO [] 0 (fresh n m f)::S):=cR.2 s
 refine zk 10 rfl (zh rfl (ag rfl rfl (r_ nP)) (rfl) (zk 2 rfl (zc rfl (LB (K:=0) (m:=m) hT (by decide) (EI.fresh (by omega) hm h4 h5) hN CF (by rw [CA]; exact eT) (by rw [CA]; exact I) ⟨aD _,rfl⟩ (by omega) s) ?_)))
 rintro v h ⟨rfl,ε',J,hp,hd,s⟩
 rw [dA] at hd
 exact zh rfl (ag rfl rfl aI) (rfl) (zk 9 rfl (WP.ret ⟨aa,_,rfl,p,a,q,r,ε',rfl,J,hp,hd,s⟩))
theorem wE (I:W told)(s:Sat h (SA a p q r .cO data bf ε::S)): Call ⟨Tryz.prog,told⟩ 15 [.ptr a 0] h fun v h'=>∃g,v=.ptr g 0∧Sat h' (GA g a p q r data bf [] ε::S):=by
 have s:=cR.1 s
 have s:Sat h (dR a p q r .cO data bf::dQ r p q ε.1::cf q p ε.2.1::bz p ε.2.2::S):=s
 refine Call.of_wp (I.free _ rfl) Tryz.func15 rfl rfl (zK 7 rfl (zc rfl (Cv I s) ?_))
 rintro v h ⟨g,rfl,s⟩
 exact zk 10 rfl (zh rfl (ag rfl rfl aI) (rfl) (zk 8 rfl (WP.ret ⟨aa,_,rfl,g,rfl,cR.2 s⟩)))
end
section
variable {told:cz} {h:H} {S:List aq} {X Y:aq} {N B n g a p q r bf:Nat} {v w x y rv uv:V} {Rt:List V} {U:List Bool} {b l c R M data L:List Nat} {A:aF→aq} {pg:aF→Int→List Nat} {ε:aF}
end
def cm (M:List Nat)(N:Nat): List Nat:=(List.range N).filter fun i => !bt M i
theorem oI {M:List Nat}{N i:Nat}: i∈cm M N↔i<N∧bt M i=false:=by
 unfold cm
 rw [Bh,wT]
 simp
theorem wF (M:List Nat)(N:Nat): (cm M N).Pairwise (· < ·):=A1 _ AX
theorem AS (M:List Nat)(N:Nat): (cm M N).Nodup:=(wF M N).imp fun h=>fJ h
theorem CG {L:List Nat}{k z:Nat}(hs:L.Pairwise (· < ·))(hz:L[k]?=some z): (∀j,j∈L.take k↔j∈L∧j<z)∧L.take (k+1)=L.take k++[z]:=by
 have hk:=(List.getElem?_eq_some_iff.1 hz).1
 have e:L=L.take k++z::L.drop (k+1):=by
  have J:=AY hk
  rw [(List.getElem?_eq_some_iff.1 hz).2] at J
  rw [J,mR]
 refine ⟨fun j => ?_,by rw [qp,hz]; rfl⟩
 generalize L.take k=a at e ⊢
 generalize L.drop (k+1)=b at e
 subst e
 obtain ⟨h1,J,h3⟩:=List.pairwise_append.1 hs
 obtain ⟨h4,h5⟩:=List.pairwise_cons.1 J
 constructor
 ·intro I; exact ⟨List.mem_append.2 (.inl I),h3 j I z ct⟩
 ·rintro ⟨I,aY⟩
  rcases List.mem_append.1 I with I | I
  ·exact I
  ·rcases List.mem_cons.1 I with rfl | I
   ·omega
   ·have:=h4 j I; omega
theorem rL {M:List Nat}{N:Nat}: (kH (bt M) N).length+(cm M N).length=N:=by
 have key:∀(l:List Nat),(l.filter (bt M)).length+(l.filter fun i => !bt M i).length=l.length:=by
  intro l
  induction l with
  | nil=>rfl
  | cons x l I=>cases h:bt M x <;> simp [h] <;> omega
 have:=key (List.range N)
 rw [sV] at this
 exact this
def chunk (b:List Nat)(i:Nat): List Nat:=(b.take (480*(i+1))).drop (480*i)
def chunks (b:List Nat)(m:Nat): List (List Nat):=(List.range m).map (chunk b)
theorem CH {b:List Nat}{i:Nat}: (chunk b i).length≤480:=by
 unfold chunk
 rw [sX,fe]; omega
theorem I8 {b:List Nat}{m:Nat}: (chunks b m).length=m:=by unfold chunks; rw [er,sV]
theorem I9 {b:List Nat}{m i:Nat}(h:i<m): (chunks b m)[i]?=some (chunk b i):=by
 unfold chunks
 rw [gI,List.getElem?_range h]; rfl
theorem LC : ∀(a b:List (List Nat)),flatL (a++b)=flatL a++flatL b:=by
 intro a
 induction a with
 | nil=>intro b; rfl
 | cons x a I=>intro b; simp only [gX,flatL,I,ep]
theorem FY {b:List Nat}: ∀m,flatL (chunks b m)=b.take (480*m):=by
 intro m
 induction m with
 | zero=>simp [chunks,flatL]
 | succ m I =>
  have e:chunks b (m+1)=chunks b m++[chunk b m]:=by unfold chunks; rw [Bg,wS]; rfl
  rw [e,LC,I]
  simp only [flatL,ff,chunk]
  have J:b.take (480*m)=(b.take (480*(m+1))).take (480*m):=by rw [qu]; congr 1; omega
  rw [J,mR]
theorem uJ {n:Nat}: n≤480*jq n∧1≤jq n∧jq n≤n+1:=by
 unfold jq
 split
 ·omega
 ·omega
theorem AT {b:List Nat}: flatL (chunks b (jq b.length))=b:=by
 rw [FY,dG uJ.1]
theorem kx.mk {P:Int→List Nat}: ∀ {ps:List Nat} {cs:List (List Nat)},ps.length=cs.length→(∀(i p:Nat) (c:List Nat),ps[i]?=some p→cs[i]?=some c→dF (P p) 203 (ps.getD (i+1) 0) (ps.length-i) [c])→kx P ps cs:=by
 intro ps
 induction ps with
 | nil=>intro cs I _; cases cs with
  | nil=>trivial
  | cons c cs=>simp at I
 | cons p ps J=>intro cs I h; cases cs with
  | nil=>simp at I
  | cons c cs =>
   refine ⟨?_,J (by simpa using I) fun i q d hq hd => ?_⟩
   ·have:=h 0 p c rfl rfl
    have e:(p::ps).getD (0+1) 0=ps.headD 0:=by cases ps <;> rfl
    rw [e] at this
    exact this
   ·have:=h (i+1) q d (by simpa using hq) (by simpa using hd)
    have e:(p::ps).getD (i+1+1) 0=ps.getD (i+1) 0:=by rw [dN,dN,j4]
    have e2:(p::ps).length-(i+1)=ps.length-i:=by rw [aN]; omega
    rw [e,e2] at this
    exact this
section
variable {told:cz} {h:H} {S:List aq} {X Y:aq} {N B n g a p q r bf m:Nat} {v x y rv pv bv cv:V} {b l c R M data:List Nat} {ps:List Nat} {cs:List (List Nat)} {ε:aF} {now:List (Int×List Nat)}
structure E7 (N:Nat)(R M:List Nat)(P:Int→List Nat)(ps:List Nat)(M':List Nat)(P':Int→List Nat): Prop where
 uZ:eR N R M' P'
 bits:∀j,bt M' j=(bt M j||decide (j∈ps))
 same:∀j:Nat,j≠1→j∉ps→P' j=P j
theorem eR.OP {P:Int→List Nat}(h:eR N R M P){z:Nat}(J:z∈cm M N): 2≤z∧z<N:=by
 obtain ⟨h1,I⟩:=oI.1 J
 refine ⟨?_,h1⟩
 rcases iD z 2 with q | q
 ·rw [h.own z q] at I; cases I
 ·exact q
theorem E7.lo {P P':Int→List Nat}{I:List Nat}{k z:Nat}(h:E7 N R M P ((cm M N).take k) I P')(J:(cm M N)[k]?=some z): z<N∧bt I z=false∧∀j,j<z→bt I j=true:=by
 have hm:=oI.1 (aV J)
 obtain ⟨t1,t2⟩:=CG (wF M N) J
 refine ⟨hm.1,?_,fun j hj => ?_⟩
 ·rw [h.bits,hm.2,qw]
  exact dm fun q=>by have:=((t1 z).1 q).2; omega
 ·rw [h.bits]
  cases hb:bt M j with
  | true=>rfl
  | false=>rw [qw]; exact cZ ((t1 j).2 ⟨oI.2 ⟨by omega,hb⟩,hj⟩)
noncomputable def YJ : Code:=eC [1,1,1,0,1,0,0] ((Tryz.f17.body).getD .skip)
theorem E8 (hT:W told)(hB:B≤2000){P0:Int→List Nat}(hN:N≤2999)(hm:m≤3000): ∀(j k:Nat) (pv:V) (M':List Nat) (ε:aF) (now:List (Int×List Nat)) (h:H) (E:List (Nat×V)) (Q:Ex→List (Nat×V)→H→Prop),k+j=m→k≤(cm M N).length→EI N B ε→NW N now→E7 N R M P0 ((cm M N).take k) M' (dh now ε) →
  Sat h (.arr 1 pv (bA ((cm M N).take k))::GA g a p q r data bf now ε::S)→Has E [(0,.ptr g 0),(1,bv),(6,pv),(24,.int .i64 (m:Int)),(25,.int .i64 (k:Int))] →
  (m≤(cm M N).length→∀Lu M2 ε' bI E' h',EI N B ε'→Sm N ε ε'→NW N bI→E7 N R M P0 ((cm M N).take m) M2 (dh bI ε')→Has E' [(0,.ptr g 0),(1,bv),(6,Lu)]→Sat h' (.arr 1 Lu (bA ((cm M N).take m))::GA g a p q r data bf bI ε'::S)→Q (.exit 0) E' h') →
  ((cm M N).length<m→∀ε' bI E' h',EI N B ε'→Sm N ε ε'→NW N bI→look E' 4=some (.int .i64 0)→look E' 5=some (.int .i64 7)→Sat h' (GA g a p q r data bf bI ε'::S)→Q .ret E' h')→WP ⟨Tryz.prog,told⟩ 100 (.loop YJ) E h Q:=by
 intro j
 induction j with
 | zero =>
  intro k pv M' ε now h E Q hk Vl eB hw hg s hE AA gv
  obtain rfl:k=m:=by omega
  refine WP.loop (WP.has hE (zg rfl (zh rfl (ag rfl rfl aR) (by simp) ?_)))
  exact zk 3 rfl (WP.exit (AA Vl pv M' ε now _ _ eB (Sm.refl _ _) hw hg ⟨rfl,rfl,rfl,aa⟩ s))
 | succ j ih =>
  intro k pv M' ε now h E Q hk Vl eB hw hg s hE AA gv
  have hM:=hg.uZ.ml
  have lF:(cm M N).length≤N:=by have:=rL (M:=M) (N:=N); omega
  refine WP.loop (WP.has hE (zg rfl (zt rfl (ag rfl rfl aR) (by simp; omega) ?_)))
  refine zk 5 rfl (WP.block (zK 3 rfl ?_))
  by_cases C5:k=(cm M N).length
  ·skip
   have lC:∀i,i<N→bt M' i=true:=fun i hi=>by
    rw [hg.bits]
    cases hb:bt M i with
    | true=>rfl
    | false=>rw [qw,C5,dG (aD _)]; exact cZ (oI.2 ⟨hi,hb⟩)
   refine zc rfl (I2 hT hB eB hw hg.uZ lC (s.ae [1])) ?_
   rintro v h ⟨ε',rfl,I,hs,s⟩
   refine zk 10 rfl (zt rfl (ag rfl rfl aI) (by decide) ?_)
   exact zk 8 rfl (WP.ret (gv (by omega) ε' now _ _ I hs hw rfl rfl (s.del 1)))
  ·have hz:(cm M N)[k]?=some ((cm M N)[k]'(by omega)):=aM _
   generalize ((cm M N)[k]'(by omega))=z at hz
   obtain ⟨l1,l2,l3⟩:=hg.lo hz
   obtain ⟨t1,t2⟩:=CG (wF M N) hz
   refine zc rfl (Nn (lo:=z) hT hB eB hw hg.uZ l1 l2 l3 (s.ae [1])) ?_
   rintro v h ⟨ε',bI,rfl,I,hs,mA,uQ,pN,hpz,s⟩
   have YK:E7 N R M P0 ((cm M N).take (k+1)) (AQ M' z) (dh bI ε'):=by
    refine ⟨uQ,fun i => ?_,fun i iy fF => ?_⟩
    ·rw [OH (by omega),hg.bits,t2]
     by_cases hi:i=z
     ·subst hi; rw [ax rfl,cZ (List.mem_append.2 (.inr (List.mem_singleton.2 rfl))),wX]
     ·rw [ai hi]
      congr 1
      exact decide_eq_decide.2 ⟨fun q=>List.mem_append.2 (.inl q),fun q=>(List.mem_append.1 q).resolve_right fun q2=>hi (List.mem_singleton.1 q2)⟩
    ·rw [t2] at fF
     rw [pN i (by omega) (fun e=>fF (List.mem_append.2 (.inr (List.mem_singleton.2 (by omega))))),hg.same i iy fun q=>fF (List.mem_append.2 (.inl q))]
   have s:=s.ae [1,0]
   dsimp only [aZ,bringA,getA] at s
   refine zk 10 rfl (zh rfl (ag rfl rfl aI) (rfl) (zk 6 rfl ?_))
   obtain ⟨iv,h1,w,h2,e3,e4,s2⟩:=yX (k:=z) s (by rw [fe]; omega)
   rw [←t2] at s2
   refine az.any rfl rfl rfl (OpR.of (R:=fun v h'=>v=iv∧h'=h1) (kg rfl e3) ⟨rfl,rfl⟩) ?_
   rintro iv h1 ⟨rfl,rfl⟩
   refine az.any rfl rfl rfl (OpR.of (R:=fun v h'=>v=w∧h'=h2) (jL rfl rfl e4) ⟨rfl,rfl⟩) ?_
   rintro w h2 ⟨rfl,rfl⟩
   refine za rfl (zv (zr rfl (zb rfl (by exact bp (aA (by omega) (by omega))) ?_)))
   refine zm rfl (zv ?_)
   exact ih (k+1) _ (AQ M' z) ε' bI _ _ Q (by omega) (by omega) I mA YK s2 ⟨rfl,rfl,rfl,rfl,rfl,aa⟩
    (fun v7 SR M2 iI J E2 h2 g1 g2 g3 g4 g5 g6=>AA v7 SR M2 iI J E2 h2 g1 (hs.trans g2) g3 g4 g5 g6) (fun v7 iI J E2 h2 g1 g2 g3 g4 g5 g6=>gv v7 iI J E2 h2 g1 (hs.trans g2) g3 g4 g5 g6)
theorem LF {b:List Nat}{i:Nat}: (b.take (min b.length (480*(i+1)))).drop (min b.length (480*i))=chunk b i:=by
 unfold chunk
 have e:b.take (min b.length (480*(i+1)))=b.take (480*(i+1)):=by
  by_cases h:b.length≤480*(i+1)
  ·rw [mX h,dG (aD _),dG h]
  ·rw [Nat.min_eq_right (by omega)]
 rw [e]
 by_cases h:b.length≤480*i
 ·rw [mX h,fI (by rw [fe]; omega),fI (by rw [fe]; omega)]
 ·rw [Nat.min_eq_right (by omega)]
noncomputable def Vm : Code:=eC [1,1,1,1,0,1,0,0,1,1,0,0,1,1,1] ((Tryz.f17.body).getD .skip)
theorem Qr (hT:W told)(hB:B≤2000)(hX:cT X (cY bv b))(qT:b.length≤8192)(xR:ps.length≤100){k z nx:Nat}(hk:k<ps.length)(hz:z<N)(Cq:nx<4294967296)(eB:EI N B ε)(hw:NW N now){E:List (Nat×V)}{Q:Ex→List (Nat×V)→H→Prop}
 (s:Sat h (.arr 1 pv (bA ps)::GA g a p q r data bf now ε::X::S))(hE:Has E [(0,.ptr g 0),(1,bv),(6,pv),(9,.int .i64 (k:Int)),(10,.int .i64 (z:Int)),(11,.int .i64 (nx:Int)),(40,pv),(41,.int .i64 (ps.length:Int)),(42,.int .i64 (k:Int))])
 (hq:∀ε' b' E' h',EI N B ε'→Sm N ε ε'→NW N (dc (z:Int) b' now)→dF b' 203 nx (ps.length-k) [chunk b k]→Has E' [(0,.ptr g 0),(1,bv),(6,pv),(40,pv),(41,.int .i64 (ps.length:Int)),(42,.int .i64 (k:Int))]→Sat h' (.arr 1 pv (bA ps)::GA g a p q r data bf (dc (z:Int) b' now) ε'::X::S)→Q .normal E' h'): WP ⟨Tryz.prog,told⟩ 100 Vm E h Q:=by
 have hlen:(bA ps).length=ps.length*1:=by rw [eL,cC]
 have ik:=CH (b:=b) (i:=k)
 refine WP.has hE (zg rfl (zc rfl (yS (kd:=203) hT s (by decide)) ?_))
 rintro v h ⟨u,b0,rfl,vg,s⟩
 refine zk 11 rfl (zo rfl (aO rfl rfl rfl (s.dJ (n:=ps.length) (j:=1) rfl hlen (by decide) bO)) ?_)
 refine zm rfl (zo rfl (ag (r:=.int .i64 ((ps.length-k:Nat):Int)) rfl rfl ((jj (aA (by omega) (by omega))).trans (by rw [show (ps.length:Int)-(k:Int)=((ps.length-k:Nat):Int) by omega]))) ?_)
 refine zc rfl (G8 (lk:=nx) (ex:=ps.length-k) hT s (bj _ _) vg Cq (by omega)) ?_
 rintro v h ⟨u2,b2,rfl,rR,s⟩
 have I:min ((b.length:Nat):Int) (480*(k:Int))=((min b.length (480*k):Nat):Int):=by omega
 have J:min ((b.length:Nat):Int) (480*((k:Int)+1))=((min b.length (480*(k+1)):Nat):Int):=by omega
 have hle:min b.length (480*k)≤min b.length (480*(k+1)):=by omega
 refine zk 10 rfl (zo rfl (aO rfl rfl rfl (aW aJ (s.aG (k:=4) rfl hX))) (zm rfl (zb rfl (by exact jQ (aA (by omega) (by omega))) ?_)))
 refine zo rfl (DS (r:=.int .i64 ((min b.length (480*k):Nat):Int)) rfl rfl (I1.trans (by rw [I]))) ?_
 refine zm rfl (zo rfl (aO rfl rfl rfl (aW aJ (s.aG (k:=4) rfl hX))) (zm rfl (zb rfl (by exact bp (aA (by omega) (by omega))) ?_)))
 refine zb rfl (by exact jQ (aA (by omega) (by omega))) ?_
 refine zo rfl (DS (r:=.int .i64 ((min b.length (480*(k+1)):Nat):Int)) rfl rfl (I1.trans (by rw [J]))) ?_
 refine zo rfl (eF (p:=some (.int .i64 ((min b.length (480*k):Nat):Int))) (q:=some (.int .i64 ((min b.length (480*(k+1)):Nat):Int))) (m:=none) (p':=some (min b.length (480*k))) (q':=some (min b.length (480*(k+1)))) (m':=none) rfl rfl rfl rfl (by rw [fB (by omega),bZ]) (by rw [fB (by omega),bZ]) rfl (iS (s.aG (k:=4) rfl hX) hle (by omega)).1) ?_
 have hY:=uu hX (a:=min b.length (480*k)) (b:=min b.length (480*(k+1))) hle (by omega)
 rw [LF] at hY
 refine zc rfl (G9 (cs:=[]) hT (s.ae [0,3]) (bj _ _) hY rR (by simp only [tot,bG]; omega)) ?_
 rintro v h ⟨u3,b3,rfl,JB,s⟩
 rw [c_] at JB
 have s:=s.ae [5,0,3,1]
 dsimp only [aZ,bringA,getA] at s
 refine zk 10 rfl (zc rfl (xL (i:=z) hT hB eB hw hz s (bj _ _) JB) ?_)
 rintro v h ⟨ε',rfl,pQ,hs,mA,s⟩
 refine za rfl (zv (zg rfl (zm rfl (zh rfl (ag rfl rfl aI) (rfl) (zv (zj rfl (WP.skip ?_)))))))
 exact hq ε' b3 _ _ pQ hs mA JB ⟨rfl,rfl,rfl,rfl,rfl,rfl,aa⟩ ((((s.ae [2,0,1]).del 5).del 4).del 3)
def OQ (P:Int→List Nat)(ps:List Nat)(b:List Nat)(k:Nat): Prop:=∀(i z:Nat),i<k→ps[i]?=some z→dF (P z) 203 (ps.getD (i+1) 0) (ps.length-i) [chunk b i]
noncomputable def YL : Code:=eC [1,1,1,1,0,1,0,0] ((Tryz.f17.body).getD .skip)
theorem Qs (hT:W told)(hB:B≤2000)(hX:cT X (cY bv b))(qT:b.length≤8192)(hN:N≤2999)(xR:ps.length≤100)(jU:ps.Nodup)(nW:∀z∈ps,2≤z∧z<N){P0:Int→List Nat}: ∀(j k:Nat) (ε:aF) (now:List (Int×List Nat)) (h:H) (E:List (Nat×V)) (Q:Ex→List (Nat×V)→H→Prop),k+j=ps.length→EI N B ε→NW N now→eR N R M (dh now ε)→OQ (dh now ε) ps b k→(∀i:Nat,i∉ps→dh now ε i=P0 i) →
  Sat h (.arr 1 pv (bA ps)::GA g a p q r data bf now ε::X::S)→Has E [(0,.ptr g 0),(1,bv),(6,pv),(40,pv),(41,.int .i64 (ps.length:Int)),(42,.int .i64 (k:Int))] →
  (∀ε' bI E' h',EI N B ε'→Sm N ε ε'→NW N bI→eR N R M (dh bI ε')→OQ (dh bI ε') ps b ps.length→(∀i:Nat,i∉ps→dh bI ε' i=P0 i)→Has E' [(6,pv)]→Sat h' (.arr 1 pv (bA ps)::GA g a p q r data bf bI ε'::X::S)→Q (.exit 2) E' h')→WP ⟨Tryz.prog,told⟩ 100 (.loop YL) E h Q:=by
 intro j
 induction j with
 | zero =>
  intro k ε now h E Q hk eB hw J AP o6 s hE hq
  refine WP.loop (WP.has hE (zg rfl (zh rfl (ag rfl rfl aR) (by simp; omega) ?_)))
  refine zk 3 rfl (WP.exit ?_)
  obtain rfl:k=ps.length:=by omega
  exact hq ε now _ _ eB (Sm.refl _ _) hw J AP o6 ⟨rfl,aa⟩ s
 | succ j ih =>
  intro k ε now h E Q hk eB hw J AP o6 s hE hq
  have hz:ps[k]?=some (ps[k]'(by omega)):=aM _
  generalize (ps[k]'(by omega))=z at hz
  have NA:=nW z (aV hz)
  have E9:(bA ps)[k]?=some (.int .i64 (z:Int)):=by rw [bA,gI,hz]; rfl
  have hlen:(bA ps).length=ps.length*1:=by rw [eL,cC]
  obtain ⟨id,off,e1,e2⟩:=gQ (P:=Tryz.prog) s (k:=0) (i:=k) rfl E9 bO kC
  have UZ:=s.aG (k:=2) rfl hX
  have ik:=CH (b:=b) (i:=k)
  -- behind the page's links
  have fin:∀ {ε':aF} {b':List Nat},Sm N ε ε'→dF b' 203 (ps.getD (k+1) 0) (ps.length-k) [chunk b k]→eR N R M (dh (dc (z:Int) b' now) ε')∧OQ (dh (dc (z:Int) b' now) ε') ps b (k+1)∧(∀i:Nat,i∉ps→dh (dc (z:Int) b' now) ε' i=P0 i):=fun {ε' b'} hs m5=>by
   refine ⟨J.put (by rw [g_,ai (by omega),gV hs]) (by rw [g_,ai (by omega),gV hs]; exact J.marks) J.ml J.own J.hi,fun i w hi I => ?_,fun i hi => ?_⟩
   ·by_cases Q_:i=k
    ·subst Q_
     rw [hz] at I
     obtain rfl:=bE I
     rw [g_,ax rfl]; exact m5
    ·have dw:(z:Int)≠(w:Int):=fun e=>by
      have e:z=w:=by omega
      subst e
      exact Q_ ((List.getElem?_inj (List.getElem?_eq_some_iff.1 I).1 jU).1 (I.trans hz.symm))
     rw [g_,ai dw,gV hs]; exact AP i w (by omega) I
   ·rw [g_,ai (fun e=>hi (by rw [show i=z by omega]; exact aV hz)),gV hs]; exact o6 i hi
  have next:∀(nx:Nat) (h:H) (E:List (Nat×V)) {Q':Ex→List (Nat×V)→H→Prop},nx=ps.getD (k+1) 0→nx<4294967296→Sat h (.arr 1 pv (bA ps)::GA g a p q r data bf now ε::X::S)→Has E [(0,.ptr g 0),(1,bv),(6,pv),(9,.int .i64 (k:Int)),(10,.int .i64 (z:Int)),(11,.int .i64 (nx:Int)),(40,pv),(41,.int .i64 (ps.length:Int)),(42,.int .i64 (k:Int))] →
    (∀ε' bI E' h',EI N B ε'→Sm N ε ε'→NW N bI→eR N R M (dh bI ε')→OQ (dh bI ε') ps b (k+1)→(∀i:Nat,i∉ps→dh bI ε' i=P0 i)→Has E' [(0,.ptr g 0),(1,bv),(6,pv),(40,pv),(41,.int .i64 (ps.length:Int)),(42,.int .i64 (k:Int))]→Sat h' (.arr 1 pv (bA ps)::GA g a p q r data bf bI ε'::X::S)→Q' .normal E' h')→WP ⟨Tryz.prog,told⟩ 100 Vm E h Q':=fun nx h E Q' Cq YM s hE mu =>
   Qr hT hB hX qT xR (by omega) NA.2 YM eB hw s hE fun ε' b' E' h' g1 g2 g3 g4 g5 g6=>by
    subst Cq
    obtain ⟨f1,f2,f3⟩:=fin g2 g4
    exact mu ε' _ E' h' g1 g2 g3 f1 f2 f3 g5 g6
  refine WP.loop (WP.has hE (zg rfl (zt rfl (ag rfl rfl aR) (by simp; omega) ?_)))
  refine zk 5 rfl (WP.block (zK 3 rfl (zo rfl (cn (r:=.ptr id off) rfl rfl e1) (zl rfl (e2 _ dS) (zk 11 rfl (zb rfl (by exact bp (aA (by omega) (by omega))) ?_))))))
  refine zm rfl (zo rfl (aO rfl rfl rfl (s.dJ (n:=ps.length) (j:=0) rfl hlen (by decide) bO)) ?_)
  by_cases hl:k+1<ps.length
  ·skip
   have I:ps[k+1]?=some (ps[k+1]'hl):=aM _
   have oY:ps[k+1]'hl=ps.getD (k+1) 0:=by rw [dN,I]; rfl
   generalize (ps[k+1]'hl)=w at I oY
   have ZF:=nW w (aV I)
   have E_:(bA ps)[k+1]?=some (.int .i64 (w:Int)):=by rw [bA,gI,I]; rfl
   obtain ⟨vK,NB,e3,e4⟩:=gQ (P:=Tryz.prog) s (k:=0) (i:=k+1) rfl E_ bO kC
   refine zt rfl (ag rfl rfl aR) (by simp; omega) ?_
   refine zk 5 rfl (zb rfl (by exact bp (aA (by omega) (by omega))) ?_)
   refine zo rfl (cn (r:=.ptr vK NB) rfl rfl e3) (zl rfl (e4 _ dS) (zk 2 rfl ?_))
   refine next w _ _ oY (by omega) s ⟨rfl,rfl,rfl,rfl,rfl,rfl,rfl,rfl,rfl,aa⟩ (fun ε' bI E' h' a1 a2 a3 a4 a5 a6 a7 s' => ?_)
   have s:=s'
   refine WP.has a7 (zr rfl (zb rfl (by exact bp (aA (by omega) (by omega))) ?_))
   refine zm rfl (zv ?_)
   exact ih (k+1) ε' bI _ _ Q (by omega) a1 a3 a4 a5 a6 s ⟨rfl,rfl,rfl,rfl,rfl,rfl,aa⟩ fun iI nQ E2 h2 g1 g2 g3 g4 g5 g6 g7 g8=>hq iI nQ E2 h2 g1 (a2.trans g2) g3 g4 g5 g6 g7 g8
  ·have oY:0=ps.getD (k+1) 0:=by rw [dN,qj (by omega)]; rfl
   refine zh rfl (ag rfl rfl aR) (by simp; omega) ?_
   refine zk 3 rfl ?_
   refine next 0 _ _ oY (by decide) s ⟨rfl,rfl,rfl,rfl,rfl,rfl,rfl,rfl,rfl,aa⟩ (fun ε' bI E' h' a1 a2 a3 a4 a5 a6 a7 s' => ?_)
   have s:=s'
   refine WP.has a7 (zr rfl (zb rfl (by exact bp (aA (by omega) (by omega))) ?_))
   refine zm rfl (zv ?_)
   exact ih (k+1) ε' bI _ _ Q (by omega) a1 a3 a4 a5 a6 s ⟨rfl,rfl,rfl,rfl,rfl,rfl,aa⟩ fun iI nQ E2 h2 g1 g2 g3 g4 g5 g6 g7 g8=>hq iI nQ E2 h2 g1 (a2.trans g2) g3 g4 g5 g6 g7 g8
end
end Go.Proofs.YtefepnnfphdkpaaGreat.Am
