/- ChainNeeds: a part of its proof; conditions: its statement's. -/
import Derived.Test.YtefepnnfphdkpaaGreatB31
set_option linter.defProp false
namespace Go.Proofs.YtefepnnfphdkpaaGreat.Am
open Go
def Dx:=@Tryz.func50
section
variable {C:bX} {E:List (Nat×V)} {h:H} {o:Oper}
theorem OpR.yield {cl:Go.Call}{x:Operand}{id au:Nat}{env e:Env}{ps:List Nat}{kS bd:Code}{Ee:List (Nat×V)}{args:List V}{R:V→H→Prop}(J:o.op=.call cl)(hc:cl.callee=.value x)(hx:lookO E x=some (.tN id))(ha:lookArgs E cl.args.toList=some args)
 (hg:T.get h.tr id=some (.loop false au env ps kS bd))(hb:bindPs au ps args env=some e)(he:gN e Ee)
 (hw:WP C au kS Ee h fun ex E1 h1=>ex=.normal∧T.get h1.tr id=some (.loop false au env ps kS bd)∧WP C au bd E1 (h1.put id (some (.loop true au env ps kS bd))) fun ex E2 h2=>ex=.normal∧T.get h2.tr id=some (.loop true au env ps kS bd)∧R (.bool true) (h2.put id (some (.loop false au env ps kS bd)))):
  OpR C E h o R:=by
 obtain ⟨N1,Ql,I,h1,E1,a1,a2,rfl,a4,y6⟩:=hw e he
 obtain ⟨N2,lF,Dt,h2,E2,b1,b2,rfl,b4,b5⟩:=y6 I a2
 refine ⟨.bool true,_,b5,fun LI hE=>⟨max N1 N2,?_⟩⟩
 have c1:=dM (C:=C) (lY N1 N2) _ _ _ a1
 have c2:=dM (C:=C) (lX N1 N2) _ _ _ b1
 simp only [evOp,J,evCall,jj hE ha,hc,bD hE hx,callV,roundV,hg,hb,c1,a4,c2,b4]
theorem Dy {f:FuncId}{fn:Func}{code a b t kS bd:Code}{jR g:Nat}{x:Operand}{ps:Array Tmp}{args:List V}{R:V→H→Prop}(hf:C.P.funcs[f]?=some fn)(hb:fn.body=some code)(hl:Nat.blt fn.ntmps args.length=false)(hp:rangeParts code=some (a,b,jR,x,ps,kS,bd,t))
 (hw:WP C fn.ntmps a (argE args 0) h fun ex E1 h1=>ex=.normal∧WP C fn.ntmps b E1 h1 fun ex E2 h2=>ex=.normal∧∃cap,lookO E2 x=some (.fn (.func g) [] cap)∧∀env,gN env E2→∃u h3,h_ C g (.tN h2.next::cap) (h2.new (.loop false fn.ntmps env ps.toList kS bd)) u h3 ∧
   T.get h3.tr h2.next=some (.loop false fn.ntmps env ps.toList kS bd)∧WP C fn.ntmps t E2 (h3.put h2.next none) fun ex E4 h4=>(match ex with | .exit _=>False | _=>True)∧∃v,jt C.P E4 h4 fn.results.toList=some v∧R v h4):
  ∃v h2,(∃N0,∀N,N0≤N→toldRange C N f args h=some (v,h2))∧R v h2:=by
 obtain ⟨N1,Ql,T7,h1,E1,a1,a2,rfl,y6⟩:=hw _ (Ak args)
 obtain ⟨N2,lF,Dt,h2,E2,b1,b2,rfl,cap,b4,wQ⟩:=y6 T7 a2
 obtain ⟨u,h3,⟨N3,c1⟩,c2,VZ⟩:=wQ Dt b2
 obtain ⟨N4,V0,Qs,h4,E4,d1,d2,hx,v,I,hR⟩:=VZ Dt b2
 refine ⟨v,h4,⟨max (max N1 N2) (max N3 N4),fun N hN => ?_⟩,hR⟩
 have m1:=dM (C:=C) (show N1≤N by omega) _ _ _ a1
 have m2:=dM (C:=C) (show N2≤N by omega) _ _ _ b1
 have m3:=oM (dM (C:=C) (show N3≤N by omega)) c1
 have m4:=dM (C:=C) (show N4≤N by omega) _ _ _ d1
 have e3:∃vs,mapO (resV C.P ⟨Qs,fn.ntmps,h4⟩) fn.results.toList=some vs∧(match vs with | [w]=>some w | vs=>some (.aX vs))=some v:=by
  unfold jt at I
  cases hm:mapO (resE C.P E4 h4) fn.results.toList with
  | none=>rw [hm] at I; cases I
  | some vs =>
   rw [hm] at I
   refine ⟨vs,Aj (P:=C.P) (s:=⟨Qs,fn.ntmps,h4⟩) d2 hm,?_⟩
   match vs,I with
   | [],I=>exact I
   | [_],I=>exact I
   | _::_::_,I=>exact I
 obtain ⟨vs,e3,J⟩:=e3
 unfold toldRange
 simp only [hf,hb,hl,ay,hp,pY,m1,m2,bD b2 b4,m3,c2,m4]
 cases V0 with
 | exit i=>exact hx.elim
 | normal =>
  simp only [e3]
  match vs,J with
  | [],J=>simp only [aj] at J; rw [←J]
  | [_],J=>simp only [aj] at J; rw [←J]
  | _::_::_,J=>simp only [aj] at J; rw [←J]
 | ret =>
  simp only [e3]
  match vs,J with
  | [],J=>simp only [aj] at J; rw [←J]
  | [_],J=>simp only [aj] at J; rw [←J]
  | _::_::_,J=>simp only [aj] at J; rw [←J]
end
def Hh (f:FuncId)(args:List V)(h:H)(r:V×H): Prop:=∃I,∀N,I≤N→toldRange CB N f args h=some r
theorem Call.range {told:cK}{f:FuncId}{fn:Func}{args:List V}{h:H}{R:V→H→Prop}(ht:told f=some (kN Tryz.prog f (Hh f)))(hf:Tryz.prog.funcs[f]?=some fn)(hb:fn.body.isSome=true)
 (hd:∃v I,(∃J,∀N,J≤N→toldRange CB N f args h=some (v,I))∧R v I): Call ⟨Tryz.prog,told⟩ f args h R:=by
 obtain ⟨v,I,⟨J,h0⟩,hR⟩:=hd
 obtain ⟨r,e1,N1,h1⟩:=Bh (P:=Tryz.prog) (f:=f) (gu:=Hh f) (args:=args) (h:=h) (r:=(v,I)) ⟨J,h0⟩ (fun c w oo hw=>Dw (C:=CB) yQ w_ (h0 J (aD _)) oo hw)
 have:r=(v,I):=by
  have a:=h0 (max J N1) (by omega)
  have b:=h1 (max J N1) (by omega)
  rw [a] at b
  exact (bG b).symm
 subst this
 exact ⟨v,I,h_.told ht hf hb e1,hR⟩
def od (i:Nat)(c:Code): Code:=match rangeParts c with
 | some (a,b,_,_,_,kS,bd,t)=>match i with
  | 0=>a
  | 1=>b
  | 2=>kS
  | 3=>bd
  | _=>t
 | none=>.skip
def og (P:Int→List Nat): List Nat→List (List Nat)→Prop
 | [],[]=>True
 | p::ps,c::cs=>dF (P p) 203 (ps.headD 0) (ps.length+1) [c]∧og P ps cs
 | _,_=>False
theorem og.len {P:Int→List Nat}: ∀ {ps:List Nat} {cs:List (List Nat)},og P ps cs→ps.length=cs.length:=by
 intro ps
 induction ps with
 | nil=>intro cs h; cases cs with
  | nil=>rfl
  | cons c cs=>exact h.elim
 | cons p ps I=>intro cs h; cases cs with
  | nil=>exact h.elim
  | cons c cs=>simp only [aQ,I h.2]
theorem og.of {P I:Int→List Nat}: ∀ {ps:List Nat} {cs:List (List Nat)},(∀p∈ps,I (p:Int)=P p)→og P ps cs→og I ps cs:=by
 intro ps
 induction ps with
 | nil=>intro cs _ h; cases cs with
  | nil=>trivial
  | cons c cs=>exact h
 | cons p ps ih=>intro cs J h; cases cs with
  | nil=>exact h
  | cons c cs=>exact ⟨by rw [J p cM]; exact h.1,ih (fun q hq=>J q (cC _ hq)) h.2⟩
def flatL : List (List Nat)→List Nat
 | []=>[]
 | c::cs=>c++flatL cs
theorem Qt {c:List Nat}{b:List Nat}{k l e:Nat}(h:dF b k l e [c]): c.length≤482:=by
 have:=h.fits
 simp only [tot,aQ,bF] at this
 omega
section
variable {told:cK} {h:H} {S:List aq} {X Y:aq} {N B n id p4 p5 p6:Nat} {v x y rv pv bv cv:V} {b l c R M:List Nat} {ps:List Nat} {cs:List (List Nat)} {A:aF→aq} {pg:aF→Int→List Nat} {ε:aF} {env:Env}
noncomputable def V1 : Code:=od 0 ((Tryz.f50.body).getD .skip)
noncomputable def V2 : Code:=od 1 ((Tryz.f50.body).getD .skip)
noncomputable def oh : Code:=od 2 ((Tryz.f50.body).getD .skip)
noncomputable def om : Code:=od 3 ((Tryz.f50.body).getD .skip)
noncomputable def V3 : Code:=od 4 ((Tryz.f50.body).getD .skip)
theorem Dz (hT:W told){E:List (Nat×V)}{db:List Nat}{dp:List Nat}(B0:dp.length≤65536)(Ct:db.length≤1048576)(BU:c.length≤482)
 (s:Sat h (pt id (.loop false 36 env [12,13] oh om)::pt p4 (.cells 1 [pv] false)::pt p5 (.cells 1 [bv] false)::.arr 1 pv (cx dp)::aP bv db::aP cv c::S))
 (hE:Has E [(4,.ptr p4 0),(5,.ptr p5 0),(12,.agg [.int .i64 (n:Int),cv]),(13,.int .i64 0)]){Q:V→H→Prop}
 (hq:∀JQ Mv h',Sat h' (pt id (.loop false 36 env [12,13] oh om)::pt p4 (.cells 1 [JQ] false)::pt p5 (.cells 1 [Mv] false)::.arr 1 JQ (cx (dp++[n]))::aP Mv (db++c)::S)→Q (.bool true) h'):
  WP ⟨Tryz.prog,told⟩ 36 oh E h fun ex E1 h1=>ex=.normal∧T.get h1.tr id=some (.loop false 36 env [12,13] oh om)∧WP ⟨Tryz.prog,told⟩ 36 om E1 (h1.put id (some (.loop true 36 env [12,13] oh om))) fun ex E2 h2=>ex=.normal∧T.get h2.tr id=some (.loop true 36 env [12,13] oh om)∧Q (.bool true) (h2.put id (some (.loop false 36 env [12,13] oh om))):=by
 have xH:=(s.buf (k:=5) rfl).view.cells
 have jF:([V.int .i64 (n:Int),cv]:List V).all storable=true:=by simp only [iB,jB,xH.2]; rfl
 refine WP.has hE (zg rfl ?_)
 refine az.cr s rfl rfl rfl (ck Q4) (fun p7 h s => ?_)
 dsimp only [V.cells,List.length_cons,List.length_nil,Nat.reduceAdd] at s
 refine zS rfl (s.gQ (j:=0) rfl Q3 rfl jF) ?_
 intro h s
 dsimp only [setA] at s
 refine zv (zr rfl (za rfl (zv ?_)))
 refine ⟨rfl,s.row (k:=1) rfl,?_⟩
 have s:=s.put (k:=1) (o':=.loop true 36 env [12,13] oh om) rfl
 generalize h.put id (some (.loop true 36 env [12,13] oh om))=h at s
 have uc:=s.lC (j:=4) rfl
 have I:=iV (s.buf (k:=5) rfl).view
 have J:=iV (s.buf (k:=6) rfl).view
 refine WP.block (zK 4 rfl (zh rfl (ag rfl rfl aL) (rfl) (zk 3 rfl ?_)))
 have s0:=s
 refine WP.drawn [some (0,2),ak,ak,ak,ak,some (0,3),some (0,3),some (0,3),ak,ak,ak] rfl (by kernel_rfl) (by kernel_rfl) ?_
 refine zL rfl (s.ld (k:=2) rfl lS rfl) (zF rfl (Nh _ _) (zL rfl (s.ld (k:=0) rfl eM rfl) ?_))
 obtain ⟨iv,h1,e1,s1⟩:=kg (P:=Tryz.prog) (k:=1) (x:=.int .i64 (n:Int)) s dx wF mh rfl (by decide) (by decide) rfl rfl
 dsimp only [V.cells,setA] at s1
 refine aB.any rfl rfl rfl rfl (OpR.of (R:=fun v h'=>v=iv∧h'=h1) (lR rfl e1) ⟨rfl,rfl⟩) ?_
 rintro iv h ⟨rfl,rfl⟩
 have s:=s1.ae [1,1,1,1,1,1,1,0]
 dsimp only [bringA,getA,aZ] at s
 have s1:=s
 obtain ⟨i1,jS,ie,uJ⟩:=ql
 obtain ⟨w,h2,e2,s2⟩:=gI (s.ae [4,6]) dx jS wF ie (by omega) rfl (by decide) (by simp only [iy,aQ,bF]; omega)
 refine aB.any rfl rfl rfl rfl (OpR.of (R:=fun v h'=>v=w∧h'=h2) (mL rfl rfl e2) ⟨rfl,rfl⟩) ?_
 rintro w h ⟨rfl,rfl⟩
 have hw:=s2
 have s:=(s2.del 1).ae [1,1,1,1,0,0,0]
 have s2:=s
 refine zL rfl (s.ld (k:=3) rfl bK rfl) (zF rfl (E0 _ _) (zL rfl (s.ld (k:=0) rfl bK rfl) (aB.any rfl rfl rfl rfl (OpR.ov rfl (s.ae [5,5]) (aR _ _) rfl rfl rfl rfl (by omega)) ?_)))
 intro bw h s
 have s:=s.ae [2,2,2,2,2,0,0]
 dsimp only [bringA,getA,aZ] at s
 have JR:=s.lC (j:=4) rfl
 have Di:=(s.buf (k:=5) rfl).view.cells
 refine aB.jG rfl rfl rfl (OpR.r7 rfl rfl rfl (s.iw (k:=2) rfl KD rfl (by decide) JR.1 JR.2.1)) ?_
 rintro v h ⟨rfl,s⟩
 dsimp only [setA,List.set] at s
 refine aB.jG rfl rfl rfl (OpR.r7 rfl rfl rfl (s.iw (k:=3) rfl jX rfl (by decide) Di.1 Di.2)) ?_
 rintro v h ⟨rfl,s⟩
 dsimp only [setA,List.set] at s
 refine aB.nil ⟨⟨fo (.inr ⟨rfl,⟨_,aO rfl (s0.ld (k:=2) rfl lS rfl)⟩,uc.2.2⟩) (.inr ⟨rfl,⟨_,aO rfl (s1.ld (k:=2) rfl lS rfl)⟩,uc.2.2⟩),aa,aa,aa,aa,p_ (.inr ⟨rfl,⟨_,aO rfl (s0.ld (k:=3) rfl bK rfl)⟩,I⟩) (.inr ⟨rfl,⟨_,aO rfl (s1.ld (k:=3) rfl bK rfl)⟩,I⟩) (.inr ⟨rfl,⟨_,aO rfl (s2.ld (k:=3) rfl bK rfl)⟩,I⟩),fun _ _=>.inr ⟨rfl,⟨_,ny rfl (E0 _ _)⟩,bT _ rfl⟩,p_ (.inr ⟨rfl,⟨_,aO rfl (s0.ld (k:=0) rfl bK rfl)⟩,J⟩) (.inr ⟨rfl,⟨_,aO rfl (s1.ld (k:=0) rfl bK rfl)⟩,J⟩) (.inr ⟨rfl,⟨_,aO rfl (s2.ld (k:=0) rfl bK rfl)⟩,J⟩),aa,aa,aa,aa⟩,?_⟩
 refine ⟨rfl,s.row (k:=1) rfl,hq w bw _ ?_⟩
 have s:=s.put (k:=1) (o':=.loop false 36 env [12,13] oh om) rfl
 dsimp only [setA] at s
 have e:cx (dp++[n])=cx dp++[.int .i64 (n:Int)]:=by simp [cx]
 rw [e]
 exact ((s.ae [1,1,1,1,1]).del 6).del 5
end
theorem RG {P:Program}{E:List (Nat×V)}{h:H}{a b c t t' I:Nat}{p q r u v w:V}(J:look E a=some p)(d1:loadV P h t p=some u)(h2:look E b=some q)(d2:loadV P h t' q=some v)(h3:look E c=some r)(d3:loadV P h I r=some w):
  jt P E h [.cell a t,.cell b t',.cell c I]=some (.aX [u,v,w]):=by simp only [jt,mapO,resE,J,d1,h2,d2,h3,d3]
structure JS (v:V): Prop where
 cell:v.cells=[v]
 st:storable v=true
 bq:v.beq v=true
section
variable {told:cK} {h:H} {S:List aq} {X Y:aq} {N B n id p2 p3 p4 p5 p6:Nat} {v x y rv pv bv cv:V} {b l c R M:List Nat} {ps:List Nat} {cs:List (List Nat)} {A:aF→aq} {pg:aF→Int→List Nat} {ε:aF} {env:Env}
def YQ (id p4 p5:Nat)(env:Env)(I J:List Nat)(S:List aq)(v:V)(h:H): Prop:=v=.bool true∧∃pv bv,Sat h (pt id (.loop false 36 env [12,13] oh om)::pt p4 (.cells 1 [pv] false)::pt p5 (.cells 1 [bv] false)::.arr 1 pv (cx I)::aP bv J::S)
theorem LM (J:W told)(I:JS rv)(s:Sat h S): Call ⟨Tryz.prog,told⟩ 108 [rv,.int .i64 (n:Int)] h fun v h'=>∃p2 p3,v=.fn (.func 159) [] [.ptr p3 0,.ptr p2 0]∧Sat h' (pt p3 (.cells 1 [.int .i64 (n:Int)] false)::pt p2 (.cells 1 [rv] false)::S):=by
 refine Call.of_wp (J.free _ rfl) Tryz.func108 rfl rfl (zg rfl (az.cr s rfl rfl rfl (fC rfl (by rw [I.cell]; simp only [iB,jB,I.st]; rfl)) ?_))
 intro p2 h s
 rw [I.cell] at s
 have s:Sat h (pt p2 (.cells 1 [rv] false)::_):=s
 refine az.cr s rfl rfl rfl (fC rfl rfl) (fun p3 h s => ?_)
 exact zk 4 rfl (zo rfl (Gj rfl rfl) (zk 2 rfl (WP.ret ⟨aa,_,rfl,p2,_,rfl,s⟩)))
noncomputable def V4 : Code:=gr [1,1,0,0] ((Tryz.f159.body).getD .skip)
theorem Hi (hT:W told)(hR:qx told N B rv A pg)(hN:N≤65536)(mI:gN env [(4,.ptr p4 0),(5,.ptr p5 0)]): ∀(ps:List Nat) (p:Nat) (cs:List (List Nat)) (left:Nat) (dp db:List Nat) (pv bv:V) (ε:aF) (h:H) (E:List (Nat×V)) (Q:Ex→List (Nat×V)→H→Prop),EI N B ε→og (pg ε) (p::ps) cs→(∀x∈p::ps,x<N)→ps.length+1≤left→left≤65536→dp.length+ps.length≤2000→db.length+(ps.length+1)*482≤1048576 →
  Sat h (pt id (.loop false 36 env [12,13] oh om)::pt p4 (.cells 1 [pv] false)::pt p5 (.cells 1 [bv] false)::.arr 1 pv (cx dp)::aP bv db::A ε::pt p2 (.cells 1 [rv] false)::S)→Has E [(0,.tN id),(2,.ptr p2 0),(4,.int .i64 (p:Int)),(5,.int .i64 (left:Int))] →
  (∀I J ε' E' h',EI N B ε'→Sm N ε ε'→Sat h' (pt id (.loop false 36 env [12,13] oh om)::pt p4 (.cells 1 [I] false)::pt p5 (.cells 1 [J] false)::.arr 1 I (cx (dp++p::ps))::aP J (db++flatL cs)::A ε'::pt p2 (.cells 1 [rv] false)::S)→Q .ret E' h')→WP ⟨Tryz.prog,told⟩ 74 (.loop V4) E h Q:=by
 intro ps
 induction ps with
 | nil =>
  intro p cs left dp db pv bv ε h E Q gT hc bk hle T8 MD Ct s hE hq
  cases cs with
  | nil=>exact hc.elim
  | cons c cs =>
   obtain ⟨hp,m5⟩:=hc
   have jN:cs=[]:=ju m5.len.symm
   subst jN
   have V5:=bk p cM
   have BU:=Qt hp
   have hl:=hp.len
   obtain ⟨ty,u0,f,rfl,hm,fT⟩:=hR.iface
   refine WP.loop (WP.has hE (zK 4 rfl (zt rfl (ag rfl rfl fY) (by simp; omega) ?_)))
   refine zk 4 rfl (WP.block (zg rfl (zl rfl (s.ld (k:=6) rfl PB rfl) (zm rfl (az.any rfl rfl rfl (OpR.invoke rfl rfl rfl hm rfl (fT (n:=(p:Int)) gT (by omega) (by omega) (s.ae [5]))) ?_)))))
   rintro v h ⟨u,ε',rfl,qQ,hs,s⟩
   refine zk 10 rfl (zh rfl (ag rfl rfl aL) (rfl) (zk 6 rfl (zc rfl (vX hT s (aR _ _) (by omega)) ?_)))
   rintro v h ⟨s,(⟨hg,rfl⟩ | ⟨hg,rfl⟩)⟩
   ·rw [show (pg ε p).getD 12 0=203 from hp.kind,show cF (pg ε p) 18 4=0 from hp.link,show cF (pg ε p) 22 4=0+1 from hp.extra]
    refine zk 15 rfl (zc rfl (xp (i:=0) hT s (aR _ _) hp rfl) ?_)
    rintro v h ⟨u2,rfl,s⟩
    have xH:=(s.buf (k:=0) rfl).view.cells
    refine zk 10 rfl (zh rfl (ag rfl rfl aL) (by decide) ?_)
    refine zk 2 rfl (zh rfl (ag rfl rfl aL) (by decide) ?_)
    refine zk 3 rfl (zh rfl (ag rfl rfl aL) (by decide) ?_)
    refine zk 4 rfl (zh rfl (ag rfl rfl fY) (by simp; omega) ?_)
    have s:=s.ae [3,3,3,3,3,0]
    dsimp only [aZ,bringA,getA] at s
    refine zk 10 rfl (zo rfl (cX (r:=.agg [.int .i64 (p:Int),u2]) rfl (by rw [Mc]; simp only [fillV,xH.1]; rfl)) ?_)
    have ud:=Dz (told:=told) (E:=[(13,.int .i64 0),(12,.agg [.int .i64 (p:Int),u2]),(4,.ptr p4 0),(5,.ptr p5 0)]) (Q:=YQ id p4 p5 env (dp++[p]) (db++c) (aP u (pg ε p)::A ε'::pt p2 (.cells 1 [.iface ty u0] false)::S)) hT (by omega) (by omega) BU s ⟨rfl,rfl,rfl,rfl,aa⟩ (fun I J h' s'=>⟨rfl,I,J,s'⟩)
    refine az.any rfl rfl rfl (OpR.yield (R:=YQ id p4 p5 env (dp++[p]) (db++c) (aP u (pg ε p)::A ε'::pt p2 (.cells 1 [.iface ty u0] false)::S)) rfl rfl rfl rfl (s.row (k:=0) rfl) rfl ((mI.set _ _).set _ _) ud) ?_
    rintro v h ⟨rfl,I,J,s⟩
    refine zo rfl (eY rfl rfl) (zk 2 rfl (zt rfl (ag rfl rfl wY) (by decide) ?_))
    refine zk 3 rfl (WP.ret ?_)
    have s:=s.ae [0,0,0,0,0,1,1]
    dsimp only [bringA,getA,aZ] at s
    refine hq I J ε' _ _ qQ hs ?_
    have e:flatL [c]=c:=by simp [flatL]
    rw [e]
    exact s.del 7
   ·rw [hp.good] at hg; cases hg
 | cons q ps ih =>
  intro p cs left dp db pv bv ε h E Q gT hc bk hle T8 MD Ct s hE hq
  cases cs with
  | nil=>exact hc.elim
  | cons c cs =>
   obtain ⟨hp,m5⟩:=hc
   have V5:=bk p cM
   have BU:=Qt hp
   have hl:=hp.len
   simp only [aQ] at hle MD Ct
   obtain ⟨ty,u0,f,rfl,hm,fT⟩:=hR.iface
   refine WP.loop (WP.has hE (zK 4 rfl (zt rfl (ag rfl rfl fY) (by simp; omega) ?_)))
   refine zk 4 rfl (WP.block (zg rfl (zl rfl (s.ld (k:=6) rfl PB rfl) (zm rfl (az.any rfl rfl rfl (OpR.invoke rfl rfl rfl hm rfl (fT (n:=(p:Int)) gT (by omega) (by omega) (s.ae [5]))) ?_)))))
   rintro v h ⟨u,ε',rfl,qQ,hs,s⟩
   have Xl:=bk q (cC _ cM)
   refine zk 10 rfl (zh rfl (ag rfl rfl aL) (rfl) (zk 6 rfl (zc rfl (vX hT s (aR _ _) (by omega)) ?_)))
   rintro v h ⟨s,(⟨hg,rfl⟩ | ⟨hg,rfl⟩)⟩
   ·rw [show (pg ε p).getD 12 0=203 from hp.kind,show cF (pg ε p) 18 4=q from hp.link,show cF (pg ε p) 22 4=ps.length+1+1 from hp.extra]
    refine zk 15 rfl (zc rfl (xp (i:=0) hT s (aR _ _) hp rfl) ?_)
    rintro v h ⟨u2,rfl,s⟩
    have xH:=(s.buf (k:=0) rfl).view.cells
    refine zk 10 rfl (zh rfl (ag rfl rfl aL) (by decide) ?_)
    refine zk 2 rfl (zh rfl (ag rfl rfl aL) (by decide) ?_)
    refine zk 3 rfl (zh rfl (ag rfl rfl aL) (by decide) ?_)
    refine zk 4 rfl (zh rfl (ag rfl rfl fY) (by simp; omega) ?_)
    have s:=s.ae [3,3,3,3,3,0]
    dsimp only [aZ,bringA,getA] at s
    refine zk 10 rfl (zo rfl (cX (r:=.agg [.int .i64 (p:Int),u2]) rfl (by rw [Mc]; simp only [fillV,xH.1]; rfl)) ?_)
    have ud:=Dz (told:=told) (E:=[(13,.int .i64 0),(12,.agg [.int .i64 (p:Int),u2]),(4,.ptr p4 0),(5,.ptr p5 0)]) (Q:=YQ id p4 p5 env (dp++[p]) (db++c) (aP u (pg ε p)::A ε'::pt p2 (.cells 1 [.iface ty u0] false)::S)) hT (by omega) (by omega) BU s ⟨rfl,rfl,rfl,rfl,aa⟩ (fun I J h' s'=>⟨rfl,I,J,s'⟩)
    refine az.any rfl rfl rfl (OpR.yield (R:=YQ id p4 p5 env (dp++[p]) (db++c) (aP u (pg ε p)::A ε'::pt p2 (.cells 1 [.iface ty u0] false)::S)) rfl rfl rfl rfl (s.row (k:=0) rfl) rfl ((mI.set _ _).set _ _) ud) ?_
    rintro v h ⟨rfl,I,J,s⟩
    refine zo rfl (eY rfl rfl) (zk 2 rfl (zh rfl (ag rfl rfl wY) (by simp; omega) ?_))
    refine zp rfl (zv (zj rfl (WP.skip (zr rfl (zk 4 rfl (zv (zr rfl (zm rfl (zo rfl (ag (r:=.int .i64 ((ps.length+1:Nat):Int)) rfl rfl (by rw [show (((ps.length+1:Nat)):Int)=((ps.length+1+1:Nat):Int)-1 by omega]; exact jV (aC (by omega) (by omega)))) ?_)))))))))
    refine za rfl (zv ?_)
    have s:=s.ae [0,0,0,0,0,1,1]
    have e1:dp++p::q::ps=(dp++[p])++q::ps:=by simp
    have e2:db++flatL (c::cs)=(db++c)++flatL cs:=by simp [flatL]
    refine ih q cs (ps.length+1) (dp++[p]) (db++c) I J ε' _ _ Q qQ (m5.of fun x _=>hR.same hs x) (fun x hx=>bk x (cC _ hx)) (aD _) (by omega) (by rw [bQ,aQ,bF]; omega) (by rw [bQ]; omega) (s.del 7) ⟨rfl,rfl,rfl,rfl,aa⟩ (fun Qu V6 mY E2 h2 g1 g2 g3=>hq Qu V6 mY E2 h2 g1 (hs.trans g2) ?_)
    rw [e1,e2]; exact g3
   ·rw [hp.good] at hg; cases hg
end
structure WC (told:cK): Prop where
 w:W told
 fmt:told 31=some (kN Tryz.prog 31 (Dv 31))
 all:told 50=some (kN Tryz.prog 50 (Hh 50))
section
variable {told:cK} {h:H} {S:List aq} {X Y:aq} {N B n id p2 p3 p4 p5 p6:Nat} {v x y rv pv bv cv:V} {b l c R M:List Nat} {ps:List Nat} {cs:List (List Nat)} {A:aF→aq} {pg:aF→Int→List Nat} {ε:aF} {env:Env}
theorem JT (hT:W told)(hR:qx told N B rv A pg)(hN:N≤65536)(I:gN env [(4,.ptr p4 0),(5,.ptr p5 0)]){p:Nat}(J:EI N B ε)(hc:og (pg ε) (p::ps) cs)(bk:∀x∈p::ps,x<N)(hl:ps.length≤1000)
 (s:Sat h (pt id (.loop false 36 env [12,13] oh om)::pt p4 (.cells 1 [.bu] false)::pt p5 (.cells 1 [.bu] false)::A ε::pt p2 (.cells 1 [rv] false)::pt p3 (.cells 1 [.int .i64 (p:Int)] false)::S)):
  Call ⟨Tryz.prog,told⟩ 159 [.tN id,.ptr p3 0,.ptr p2 0] h fun v h'=>∃pv bv ε',EI N B ε'∧Sm N ε ε'∧Sat h' (pt id (.loop false 36 env [12,13] oh om)::pt p4 (.cells 1 [pv] false)::pt p5 (.cells 1 [bv] false)::.arr 1 pv (cx (p::ps))::aP bv (flatL cs)::A ε'::pt p2 (.cells 1 [rv] false)::pt p3 (.cells 1 [.int .i64 (p:Int)] false)::S):=by
 refine Call.of_wp (hT.free _ rfl) Tryz.func159 rfl rfl (zg rfl (zl rfl (s.ld (k:=5) rfl eM rfl) (zk 6 rfl (WP.block ?_))))
 have s:=(s.qc (k:=1)).CF
 have s:=s.ae [2,2,2,1,0]
 refine Hi hT hR hN I ps p cs 65536 [] [] .bu .bu ε _ _ _ J hc bk (by omega) (aD _) (by rw [bF]; omega) (by rw [bF]; omega) s ⟨rfl,rfl,rfl,rfl,aa⟩ (fun pv bv ε' E' h' g1 g2 g3=>⟨aa,_,rfl,pv,bv,ε',g1,g2,g3⟩)
theorem Qv (hR:qx nP N B rv A pg)(hv:JS rv)(hN:N≤65536){p:Nat}(gT:EI N B ε)(hc:og (pg ε) (p::ps) cs)(bk:∀x∈p::ps,x<N)(hl:ps.length≤1000)(sr:(flatL cs).length≤1048576)(s:Sat h (A ε::S)):
  ∃v h2,(∃N0,∀n,N0≤n→toldRange CB n 50 [rv,.int .i64 (p:Int)] h=some (v,h2))∧(∃w u ε',v=.aX [w,u,.int .i64 0]∧EI N B ε'∧Sm N ε ε'∧Sat h2 (.arr 1 w (cx (p::ps))::aP u (flatL cs)::A ε'::S)):=by
 have hT:=W.base
 refine Dy (C:=CB) (a:=V1) (b:=V2) (t:=V3) (kS:=oh) (bd:=om) (jR:=0) (g:=159) (x:=.tmp 11) (ps := #[12,13]) Dx rfl rfl (by kernel_rfl) ?_
 refine zr rfl ?_
 refine az.cr s rfl rfl rfl (ck Tt) (fun p4 h s => ?_)
 dsimp only [V.cells,List.length_cons,List.length_nil,Nat.reduceAdd] at s
 refine az.cr s rfl rfl rfl (ck nA) (fun p5 h s => ?_)
 dsimp only [V.cells,List.length_cons,List.length_nil,Nat.reduceAdd] at s
 refine az.cr s rfl rfl rfl (ck Ts) (fun p6 h s => ?_)
 dsimp only [V.cells,List.length_cons,List.length_nil,Nat.reduceAdd] at s
 refine zv ?_
 refine ⟨rfl,?_⟩
 refine zr rfl (zm rfl (zm rfl (az.call rfl rfl rfl rfl rfl rfl rfl (LM hT hv s) ?_)))
 rintro v h ⟨p2,p3,rfl,s⟩
 refine zv ?_
 refine ⟨rfl,_,rfl,fun env J => ?_⟩
 have s:=s.new (.loop false 36 env [12,13] oh om)
 have s:=s.ae [0,4,3,3,1,0,0]
 dsimp only [bringA,getA,aZ] at s
 obtain ⟨u,h3,A6,pv,bv,ε',qQ,hs,s⟩:=JT hT hR hN (J.sub (Has.sub (F:=[(4,.ptr p4 0),(5,.ptr p5 0)]) ⟨rfl,rfl,aa⟩)) gT hc bk hl s
 refine ⟨u,h3,A6,s.row (k:=0) rfl,?_⟩
 have s:=s.kill
 generalize h3.put h.next none=h at s ⊢
 have SX:=s.lC (j:=2) rfl
 have I:=iV (s.buf (k:=3) rfl).view
 have hlen:(cx (p::ps)).length=(p::ps).length*1:=by rw [iy,c6]
 have Sv:(p::ps).length≤1001:=by rw [aQ]; omega
 obtain ⟨i1,jS,ie,uJ⟩:=ql
 refine zw ?_
 have s0:=s
 refine WP.drawn [ak,ak,ak,some (0,2),none,some (0,3),some (0,3),none,some (0,4),ak,ak,ak,ak] rfl (by kernel_rfl) (by kernel_rfl) ?_
 refine zL rfl (by exact s.ld (k:=0) rfl lS rfl) ?_
 refine zO rfl (aV rfl rfl rfl (s.iL (n:=(p::ps).length) (j:=2) rfl hlen (by decide) dx)) ?_
 obtain ⟨wv,h1,e3,s1⟩:=uA (P:=Tryz.prog) s dx jS wF ie (by omega) rfl (by decide) (by decide) (n:=0) (c:=(p::ps).length) (by omega) (by omega)
 refine aB.any rfl rfl rfl rfl (OpR.of (R:=fun v h'=>v=wv∧h'=h1) (sQ rfl rfl e3) ⟨rfl,rfl⟩) ?_
 rintro w0 h ⟨rfl,rfl⟩
 have s:Sat h (.arr 1 w0 []::_):=s1
 have s:=s.ae [1,1,1,1,0]
 dsimp only [bringA,getA,aZ] at s
 have s1:=s
 obtain ⟨w3,h2,e4,s2⟩:=gI (s.ae [4,2]) dx jS wF ie (by omega) rfl (by decide) (by rw [hlen,bF]; omega)
 rw [c5] at s2
 dsimp only [bringA,getA,aZ] at s2
 refine zL rfl (by exact s.ld (k:=0) rfl lS rfl) ?_
 refine aB.any rfl rfl rfl rfl (OpR.of (R:=fun v h'=>v=w3∧h'=h2) (mL rfl rfl e4) ⟨rfl,rfl⟩) ?_
 rintro w3 h ⟨rfl,rfl⟩
 have s:=s2.ae [2,2,1,1,0]
 dsimp only [bringA,getA,aZ] at s
 have s2:=s
 refine zL rfl (by exact s.ld (k:=1) rfl bK rfl) ?_
 refine zO rfl (aV rfl rfl rfl (aS aI (s.aH (k:=3) rfl (aR _ _)))) (aB.any rfl rfl rfl rfl (OpR.qd rfl s rfl rfl rfl rfl (by omega)) ?_)
 intro u2 h s
 have s:=s.ae [1,1,1,1,1,0]
 dsimp only [bringA,getA,aZ] at s
 have s3:=s
 refine zL rfl (by exact s.ld (k:=1) rfl bK rfl) ?_
 refine aB.any rfl rfl rfl rfl (OpR.ov rfl (s.ae [5,3]) (aR _ _) rfl rfl rfl rfl (by rw [bF]; omega)) ?_
 intro u3 h s
 rw [c5] at s
 have s:=s.ae [2,2,2,1,1,0]
 dsimp only [bringA,getA,aZ] at s
 have JR:=s.lC (j:=4) rfl
 have Di:=(s.buf (k:=5) rfl).view.cells
 refine aB.jG rfl rfl rfl (OpR.r7 rfl rfl rfl (s.iw (k:=0) rfl KD rfl (by decide) JR.1 JR.2.1)) ?_
 rintro v h ⟨rfl,s⟩
 dsimp only [setA,List.set] at s
 refine aB.jG rfl rfl rfl (OpR.r7 rfl rfl rfl (s.iw (k:=1) rfl jX rfl (by decide) Di.1 Di.2)) ?_
 rintro v h ⟨rfl,s⟩
 dsimp only [setA,List.set] at s
 refine aB.jG rfl rfl rfl (OpR.r7 rfl rfl rfl (s.iw (k:=9) rfl Tq rfl (by decide) rfl rfl)) ?_
 rintro v h ⟨rfl,s⟩
 dsimp only [setA,List.set] at s
 refine aB.nil ⟨⟨aa,aa,aa,fo (.inr ⟨rfl,⟨_,aO rfl (by exact s0.ld (k:=0) rfl lS rfl)⟩,SX.2.2⟩) (.inr ⟨rfl,⟨_,aO rfl (by exact s1.ld (k:=0) rfl lS rfl)⟩,SX.2.2⟩),aa,p_ (.inr ⟨rfl,⟨_,aO rfl (by exact s0.ld (k:=1) rfl bK rfl)⟩,I⟩) (.inr ⟨rfl,⟨_,aO rfl (by exact s1.ld (k:=1) rfl bK rfl)⟩,I⟩) (.inr ⟨rfl,⟨_,aO rfl (by exact s2.ld (k:=1) rfl bK rfl)⟩,I⟩),p_ (.inr ⟨rfl,⟨_,aV rfl rfl rfl (aS aI (s0.aH (k:=3) rfl (aR _ _)))⟩,bT _ rfl⟩) (.inr ⟨rfl,⟨_,aV rfl rfl rfl (aS aI (s1.aH (k:=3) rfl (aR _ _)))⟩,bT _ rfl⟩) (.inr ⟨rfl,⟨_,aV rfl rfl rfl (aS aI (s2.aH (k:=3) rfl (aR _ _)))⟩,bT _ rfl⟩),aa,IA (.inr ⟨rfl,⟨_,aO rfl (by exact s0.ld (k:=1) rfl bK rfl)⟩,I⟩) (.inr ⟨rfl,⟨_,aO rfl (by exact s1.ld (k:=1) rfl bK rfl)⟩,I⟩) (.inr ⟨rfl,⟨_,aO rfl (by exact s2.ld (k:=1) rfl bK rfl)⟩,I⟩) (.inr ⟨rfl,⟨_,aO rfl (by exact s3.ld (k:=1) rfl bK rfl)⟩,I⟩),aa,aa,aa,aa,aa⟩,?_⟩
 refine WP.ret ?_
 refine ⟨aa,_,RG rfl (s.ld (k:=0) rfl lS rfl) rfl (s.ld (k:=1) rfl bK rfl) rfl (s.ld (k:=9) rfl Tr rfl),_,_,ε',rfl,qQ,hs,?_⟩
 exact (((((((s.ae [4,4,4]).del 9).del 8).del 7).del 6).del 5).del 4).del 3
theorem JU (hT:WC told)(hR:qx nP N B rv A pg)(hv:JS rv)(hN:N≤65536){p:Nat}(I:EI N B ε)(hc:og (pg ε) (p::ps) cs)(J:∀x∈p::ps,x<N)(hl:ps.length≤1000)(sr:(flatL cs).length≤1048576)(s:Sat h (A ε::S)):
  Call ⟨Tryz.prog,told⟩ 50 [rv,.int .i64 (p:Int)] h fun v h'=>∃w u ε',v=.aX [w,u,.int .i64 0]∧EI N B ε'∧Sm N ε ε'∧Sat h' (.arr 1 w (cx (p::ps))::aP u (flatL cs)::A ε'::S) :=
 Call.range hT.all Dx rfl (Qv hR hv hN I hc J hl sr s)
theorem DB (hT:WC told)(hR:qx nP N B rv A pg)(hv:JS rv)(hN:N≤65536){p:Nat}(J:EI N B ε)(hc:og (pg ε) (p::ps) cs)(bk:∀x∈p::ps,x<N)(hl:ps.length≤1000)(sr:(flatL cs).length≤1048576)(s:Sat h (A ε::S)):
  Call ⟨Tryz.prog,told⟩ 19 [rv,.int .i64 (p:Int)] h fun v h'=>∃u ε',v=.aX [u,.int .i64 0]∧EI N B ε'∧Sm N ε ε'∧Sat h' (aP u (flatL cs)::A ε'::S):=by
 refine Call.of_wp (hT.w.free _ rfl) Tryz.func19 rfl rfl (zK 9 rfl (zc rfl (JU hT hR hv hN J hc bk hl sr s) ?_))
 rintro v h ⟨w,u,ε',rfl,I,hs,s⟩
 exact zk 15 rfl (WP.ret ⟨aa,_,rfl,u,ε',rfl,I,hs,s.drop⟩)
theorem JV (hT:WC told)(hR:qx nP N B rv A pg)(hv:JS rv)(hN:N≤65536){p:Nat}(J:EI N B ε)(hc:og (pg ε) (p::ps) cs)(bk:∀x∈p::ps,x<N)(hl:ps.length≤1000)(sr:(flatL cs).length≤1048576)(s:Sat h (A ε::S)):
  Call ⟨Tryz.prog,told⟩ 18 [rv,.int .i64 (p:Int)] h fun v h'=>∃w ε',v=.aX [w,.int .i64 0]∧EI N B ε'∧Sm N ε ε'∧Sat h' (.arr 1 w (cx (p::ps))::A ε'::S):=by
 refine Call.of_wp (hT.w.free _ rfl) Tryz.func18 rfl rfl (zK 9 rfl (zc rfl (JU hT hR hv hN J hc bk hl sr s) ?_))
 rintro v h ⟨w,u,ε',rfl,I,hs,s⟩
 exact zk 15 rfl (WP.ret ⟨aa,_,rfl,w,ε',rfl,I,hs,s.del 1⟩)
def kA (n:Nat): Nat:=if n=0 then 1 else (n-1)/480+1
theorem v8 (I:W told){n:Int}(J:n<9223372036854775808): Call ⟨Tryz.prog,told⟩ 12 [.int .i64 n] h fun v h'=>v=.int .i64 (kA n.toNat:Nat)∧h'=h:=by
 refine Call.of_wp (I.free _ rfl) Tryz.func12 rfl rfl (zK 8 rfl ?_)
 by_cases h0:n≤0
 ·skip
  refine zt rfl (ag rfl rfl wY) (by simp; omega) ?_
  exact zk 6 rfl (WP.ret ⟨aa,_,rfl,by rw [show n.toNat=0 by omega]; rfl,rfl⟩)
 ·obtain ⟨m,rfl⟩:∃m:Nat,n=(m:Int)+1:=⟨n.toNat-1,by omega⟩
  have hm:(m:Int)+1-1=(m:Int):=by omega
  have hd:m/480≤m:=zX _ _
  refine zh rfl (ag rfl rfl wY) (by simp <;> omega) ?_
  refine zk 6 rfl (zo rfl (ag (r:=.int .i64 (m:Int)) rfl rfl ((jV (a:=(m:Int)+1) (b:=1) (aC (by omega) (by omega))).trans (by rw [hm]))) ?_)
  refine zb rfl (yY (a:=m) (b:=480) (by decide) (by omega)) ?_
  refine zb rfl (by exact bB (aC (by omega) (by omega))) ?_
  exact zk 2 rfl (WP.ret ⟨aa,_,rfl,by rw [kA,ai (by omega),show ((m:Int)+1).toNat-1=m by omega]; rfl,rfl⟩)
end
section
variable {told:cK} {h:H} {S:List aq} {X Y:aq} {N B n:Nat} {v x y rv:V} {b l c R M:List Nat} {kd link extra lF:Nat} {cs:List (List Nat)} {A:aF→aq} {pg:aF→Int→List Nat} {ε:aF}
def y7 (f:Nat→Bool)(k:Nat): List Nat:=(List.range k).filter f
theorem LN {k:Nat}(s:Sat h (.arr 1 v (cx l)::S))(hl:l.length≤1048576):
  ∃I J w h2,buildSliceV Tryz.prog h 33 1 [(0,.int .i64 (k:Int))]=some (I,J)∧appendV Tryz.prog J #[33,33] v I=some (w,h2)∧Sat h2 (.arr 1 w (cx (l++[k]))::S):=by
 obtain ⟨I,J,e1,s1⟩:=kg (P:=Tryz.prog) (k:=1) (x:=.int .i64 (k:Int)) s dx wF mh rfl (by decide) (by decide) rfl rfl
 obtain ⟨i1,jS,ie,uJ⟩:=ql
 obtain ⟨w,h2,e2,s2⟩:=gI (s1.ae [1,0]) dx jS wF ie (by omega) rfl (by decide) (by simp only [iy,V.cells,aQ,bF]; omega)
 refine ⟨I,J,w,h2,e1,e2,?_⟩
 have e:cx (l++[k])=cx l++[.int .i64 (k:Int)]:=by simp [cx]
 rw [e]
 exact s2.del 1
end
section
variable {P:Program} {h:H} {S:List aq} {j i k:Nat} {v c x:V} {cs:List V} {t te t':TypeId}
end
structure WS (told:cK): Prop where
 w:W told
 fmt:told 31=some (kN Tryz.prog 31 (Dv 31))
theorem N8 {f:Nat→Bool}{k m:Nat}: (y7 f (k+m)).length=(y7 f k).length+((List.range m).filter fun i=>f (k+i)).length:=by
 unfold y7
 rw [List.range_add,List.filter_append,bQ,List.filter_map,eP]
 rfl
theorem LO {f:Nat→Bool}{n m:Nat}(h:∀j,n≤j→f j=false): (y7 f (n+m)).length=(y7 f n).length:=by
 rw [N8]
 have:((List.range m).filter fun i=>f (n+i))=[]:=List.filter_eq_nil_iff.2 fun i _=>by rw [h _ (by omega)]; decide
 rw [this]; rfl
theorem JW {f g:Nat→Bool}{n:Nat}(h:∀i,i<n→f i=g i): y7 f n=y7 g n:=List.filter_congr fun i hi=>h i (List.mem_range.1 hi)
section
variable {told:cK} {h:H} {S:List aq} {X Y:aq} {N B n g a p q r bA:Nat} {v w x y rv uv:V} {Rt:List V} {U:List Bool} {b l c R M data L:List Nat} {A:aF→aq} {pg:aF→Int→List Nat} {ε:aF}
theorem JX (hT:WS told){K:Nat}{m:Nat}(hB:B≤800)(I:EI N B ε)(hN:4≤N)(J:N≤1000)(hz:(pgA ε 0).length=512)(hg:bP (pgA ε 0)=false)(hd:tJ K m ε)(hf:K+520*N+28≤m)(s:Sat h (SA a p q r .cN data bA ε::S)):
  Call ⟨Tryz.prog,told⟩ 31 [.ptr a 0] h fun v h'=>v=.int .i64 0∧∃ε',EI N (B+2) ε'∧jq N (List.replicate 64 0) mZ (pgA ε')∧tJ (K+520*N+28) m ε'∧Sat h' (SA a p q r .cN data bA ε'::S) :=
 Call.defer hT.fmt Ds rfl (JP hB I hN J hz hg hd hf s)
theorem tK (hT:WS told){m f:Nat}(hN:4≤n)(SH:n≤1000)(hm:m≤16777216)(hf:520*n+28≤m)(h4:1≤f)(h5:f≤1024)(s:Sat h S):
  Call ⟨Tryz.prog,told⟩ 14 [.int .i64 (n:Int),.int .i64 (m:Int),.int .i64 (f:Int)] h fun v h'=>∃p a q r ε,v=.ptr a 0∧EI n 3 ε∧jq n (List.replicate 64 0) mZ (pgA ε)∧tJ (520*n+28) m ε∧Sat h' (SA a p q r .cN [] 0 ε::S):=by
 have I:bP (List.replicate 512 0)=false:=by decide +kernel
 refine Call.of_wp (hT.w.free _ rfl) Tryz.func14 rfl rfl (zK 9 rfl (zc rfl (G1 (n:=n) (m:=m) (f:=f) hT.w s (by omega) (by omega) hm h4 h5) ?_))
 rintro v h ⟨p,a,q,r,rfl,s⟩
 have s:Sat h (SA a p q r .cN [] 0 (fresh n m f)::S):=cS.2 s
 refine zk 10 rfl (zh rfl (ag rfl rfl (s_ uY)) (rfl) (zk 2 rfl (zc rfl (JX (K:=0) (m:=m) hT (by decide) (EI.fresh (by omega) hm h4 h5) hN SH (by rw [Bp]; exact eE) (by rw [Bp]; exact I) ⟨aD _,rfl⟩ (by omega) s) ?_)))
 rintro v h ⟨rfl,ε',J,hp,hd,s⟩
 rw [dB] at hd
 exact zh rfl (ag rfl rfl aL) (rfl) (zk 9 rfl (WP.ret ⟨aa,_,rfl,p,a,q,r,ε',rfl,J,hp,hd,s⟩))
theorem Bt (I:W told)(s:Sat h (SA a p q r .cN data bA ε::S)): Call ⟨Tryz.prog,told⟩ 15 [.ptr a 0] h fun v h'=>∃g,v=.ptr g 0∧Sat h' (GA g a p q r data bA [] ε::S):=by
 have s:=cS.1 s
 have s:Sat h (dR a p q r .cN data bA::dG r p q ε.1::bW q p ε.2.1::bp p ε.2.2::S):=s
 refine Call.of_wp (I.free _ rfl) Tryz.func15 rfl rfl (zK 7 rfl (zc rfl (Bj I s) ?_))
 rintro v h ⟨g,rfl,s⟩
 exact zk 10 rfl (zh rfl (ag rfl rfl aL) (rfl) (zk 8 rfl (WP.ret ⟨aa,_,rfl,g,rfl,cS.2 s⟩)))
end
section
variable {told:cK} {h:H} {S:List aq} {X Y:aq} {N B n g a p q r bA:Nat} {v w x y rv uv:V} {Rt:List V} {U:List Bool} {b l c R M data L:List Nat} {A:aF→aq} {pg:aF→Int→List Nat} {ε:aF}
end
def c8 (M:List Nat)(N:Nat): List Nat:=(List.range N).filter fun i => !bt M i
theorem nJ {M:List Nat}{N i:Nat}: i∈c8 M N↔i<N∧bt M i=false:=by
 unfold c8
 rw [List.mem_filter,List.mem_range]
 simp
theorem vc (M:List Nat)(N:Nat): (c8 M N).Pairwise (· < ·):=List.Pairwise.filter _ List.pairwise_lt_range
theorem Hj (M:List Nat)(N:Nat): (c8 M N).Nodup:=(vc M N).imp fun h=>gY h
theorem Bu {L:List Nat}{k z:Nat}(hs:L.Pairwise (· < ·))(hz:L[k]?=some z): (∀j,j∈L.take k↔j∈L∧j<z)∧L.take (k+1)=L.take k++[z]:=by
 have hk:=(List.getElem?_eq_some_iff.1 hz).1
 have e:L=L.take k++z::L.drop (k+1):=by
  have J:=List.getElem_cons_drop hk
  rw [(List.getElem?_eq_some_iff.1 hz).2] at J
  rw [J,rz]
 refine ⟨fun j => ?_,by rw [zH,hz]; rfl⟩
 generalize L.take k=a at e ⊢
 generalize L.drop (k+1)=b at e
 subst e
 obtain ⟨h1,J,h3⟩:=List.pairwise_append.1 hs
 obtain ⟨h4,h5⟩:=List.pairwise_cons.1 J
 constructor
 ·intro I; exact ⟨List.mem_append.2 (.inl I),h3 j I z cM⟩
 ·rintro ⟨I,bk⟩
  rcases List.mem_append.1 I with I | I
  ·exact I
  ·rcases List.mem_cons.1 I with rfl | I
   ·omega
   ·have:=h4 j I; omega
theorem DC {M:List Nat}{N:Nat}: (y7 (bt M) N).length+(c8 M N).length=N:=by
 have key:∀(l:List Nat),(l.filter (bt M)).length+(l.filter fun i => !bt M i).length=l.length:=by
  intro l
  induction l with
  | nil=>rfl
  | cons x l I=>cases h:bt M x <;> simp [h] <;> omega
 have:=key (List.range N)
 rw [zI] at this
 exact this
def chunk (b:List Nat)(i:Nat): List Nat:=(b.take (480*(i+1))).drop (480*i)
def chunks (b:List Nat)(m:Nat): List (List Nat):=(List.range m).map (chunk b)
theorem Bv {b:List Nat}{i:Nat}: (chunk b i).length≤480:=by
 unfold chunk
 rw [List.length_drop,fc]; omega
theorem Hl {b:List Nat}{m:Nat}: (chunks b m).length=m:=by unfold chunks; rw [eP,zI]
theorem Ho {b:List Nat}{m i:Nat}(h:i<m): (chunks b m)[i]?=some (chunk b i):=by
 unfold chunks
 rw [j9,List.getElem?_range h]; rfl
theorem JY : ∀(a b:List (List Nat)),flatL (a++b)=flatL a++flatL b:=by
 intro a
 induction a with
 | nil=>intro b; rfl
 | cons x a I=>intro b; simp only [gx,flatL,I,eO]
theorem Em {b:List Nat}: ∀m,flatL (chunks b m)=b.take (480*m):=by
 intro m
 induction m with
 | zero=>simp [chunks,flatL]
 | succ m I =>
  have e:chunks b (m+1)=chunks b m++[chunk b m]:=by unfold chunks; rw [List.range_succ,zV]; rfl
  rw [e,JY,I]
  simp only [flatL,fJ,chunk]
  have J:b.take (480*m)=(b.take (480*(m+1))).take (480*m):=by rw [o5]; congr 1; omega
  rw [J,rz]
theorem xy {n:Nat}: n≤480*kA n∧1≤kA n∧kA n≤n+1:=by
 unfold kA
 split
 ·omega
 ·omega
theorem Hp {b:List Nat}: flatL (chunks b (kA b.length))=b:=by
 rw [Em,eD xy.1]
theorem og.mk {P:Int→List Nat}: ∀ {ps:List Nat} {cs:List (List Nat)},ps.length=cs.length→(∀(i p:Nat) (c:List Nat),ps[i]?=some p→cs[i]?=some c→dF (P p) 203 (ps.getD (i+1) 0) (ps.length-i) [c])→og P ps cs:=by
 intro ps
 induction ps with
 | nil=>intro cs I _; cases cs with
  | nil=>trivial
  | cons c cs=>simp at I
 | cons p ps J=>intro cs I h; cases cs with
  | nil=>simp at I
  | cons c cs =>
   refine ⟨?_,J (by simpa using I) fun i q d hq hd => ?_⟩
   ·have:=h 0 p c rfl rfl
    have e:(p::ps).getD (0+1) 0=ps.headD 0:=by cases ps <;> rfl
    rw [e] at this
    exact this
   ·have:=h (i+1) q d (by simpa using hq) (by simpa using hd)
    have e:(p::ps).getD (i+1+1) 0=ps.getD (i+1) 0:=by rw [ei,ei,j8]
    have e2:(p::ps).length-(i+1)=ps.length-i:=by rw [aQ]; omega
    rw [e,e2] at this
    exact this
end Go.Proofs.YtefepnnfphdkpaaGreat.Am
