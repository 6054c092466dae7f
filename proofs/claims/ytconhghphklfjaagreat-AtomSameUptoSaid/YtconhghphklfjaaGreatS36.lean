/- AtomSame: a part of its proof; conditions: its statement's. -/
import Derived.Test.YtconhghphklfjaaGreatS35
namespace Go.Proofs.YtconhghphklfjaaGreat.Am
open Go
structure cg where
 kd:Nat
 tx:Nat
 pv:Nat
 nx:Nat
 data:List Nat
 aP:List cm
def cg.bd (r:cg): List Nat:=dm r.kd r.tx r.pv r.nx r.data r.aP
def cg.len (r:cg): Nat:=8+r.bd.length
structure cg.Ok (r:cg): Prop where
 good:dM r.kd r.aP=true
 rd:xk r.tx r.pv r.nx r.data r.aP
 len:r.bd.length≤1048576
theorem cg.Ok.kd {r:cg}(h:r.Ok): r.kd<256:=by
 have:=h.good
 simp [dM] at this
 omega
def logB : Nat→List cg→List Nat
 | _,[]=>[]
 | n,r::l=>ic n r.bd++logB (n+r.len) l
def lG : Nat→List cg→List Nat
 | _,[]=>[]
 | a,r::l=>a::lG (a+r.len) l
def ru (j:List Nat): Prop:=j.length<8∨j.length-8<leN (j.take 4)
theorem QI {x y:List Nat}{a b:Nat}(I:x.length=a): ((x++y).take (a+b)).drop a=y.take b:=by
 subst I
 rw [sS,fI (by omega),sU rfl]
 congr 1; omega
section
variable {told:dF} {h:H} {S:List ax} {X:ax} {v:V} {l:List Nat}
theorem LZ (U:W told){pre j:List Nat}{n a:Nat}(hj:ru j)(ha:pre.length=a)(J:l=pre++j)(E5:l.length≤1073741824)(s:Sat h (X::S))(I:cR X (cV v l)):
  Call ⟨Tryz.prog,told⟩ 57 [v,.int .i64 (a:Int),.int .u64 (n:Int)] h fun r h'=>r=.bD [.agg (iy 0 0 0 0 .bA .bA),.int .i64 0,.int .i64 4]∧Sat h' (X::S):=by
 have hlen:l.length=a+j.length:=by rw [J,bC,ha]
 have hvl:=bh (P:=Tryz.prog) (h:=h) aS (s.aG (k:=0) rfl I)
 have m1:(l.take (a+4)).drop a=j.take 4:=by rw [J]; exact QI ha
 refine Call.of_wp (U.free _ rfl) Tryz.func57 rfl rfl (zg rfl ?_)
 refine aB.cO s rfl rfl rfl (cH qU) (fun p6 h s => ?_)
 refine zk 7 rfl (zh rfl (ag rfl rfl bx) (by simp) ?_)
 refine zk 3 rfl (zo rfl (a_ rfl rfl rfl (bh aS (s.aG (k:=1) rfl I))) (zh rfl (ag rfl rfl dR) (by simp; omega) ?_))
 refine zk 8 rfl (zo rfl (a_ rfl rfl rfl (bh aS (s.aG (k:=1) rfl I))) (zm rfl (zb rfl (by exact lE (aT (by omega) (by omega))) ?_)))
 by_cases h8:j.length<8
 ·skip
  refine zt rfl (ag rfl rfl bx) (by simp; omega) ?_
  refine zk 4 rfl (zo rfl (cX rfl (by rw [wK]; rfl)) ?_)
  refine zS rfl (s.gX (j:=0) rfl gy rfl rfl) (fun h s => ?_)
  refine zk 3 rfl ?_
  refine WP.ret ⟨aa,_,xh rfl (s.fE (k:=0) rfl ni gy) rfl rfl,?_⟩
  exact ⟨rfl,s.drop⟩
 have fc:j.length-8<leN (j.take 4):=by rcases hj with h | h; exact absurd h h8; exact h
 have hw4:leN (j.take 4)<4294967296:=by
  have:=yL (j.take 4) (fun b hb=>(s.aG (k:=1) rfl I).1 b (by rw [J]; exact List.mem_append.2 (.inr (gr hb))))
  rwa [dJ,o8 (by omega)] at this
 refine zh rfl (ag rfl rfl bx) (by simp; omega) ?_
 refine zk 8 rfl (zb rfl (by exact bO (aT (by omega) (by omega))) ?_)
 refine zo rfl (cC (p:=some (.int .i64 (a:Int))) (q:=some (.int .i64 ((a:Int)+4))) (m:=none) (p':=some a) (q':=some (a+4)) (m':=none) rfl rfl rfl rfl (by rw [fG (by omega)]; rfl) (by rw [fG (by omega)]; congr 2 <;> omega) rfl (iF (s.aG (k:=1) rfl I) (a:=a) (b:=a+4) (by omega) (by omega)).1) ?_
 refine zc rfl (pN U s (k:=1) rfl (mE I (a:=a) (b:=a+4) (by omega) (by omega)) (by rw [m1,dJ]; omega)) ?_
 rintro r h' ⟨rfl,rfl⟩
 rw [m1]
 refine zk 6 rfl ?_
 by_cases D3:1048576<leN (j.take 4)
 ·skip
  refine zt rfl (ag rfl rfl dR) (by simp; omega) ?_
  refine zk 14 rfl (zo rfl (cX rfl (by rw [wK]; rfl)) ?_)
  refine zS rfl (s.gX (j:=0) rfl gy rfl rfl) (fun h s => ?_)
  refine zk 3 rfl ?_
  refine WP.ret ⟨aa,_,xh rfl (s.fE (k:=0) rfl ni gy) rfl rfl,?_⟩
  exact ⟨rfl,s.drop⟩
 refine zh rfl (ag rfl rfl dR) (by simp; omega) ?_
 refine zk 2 rfl (zo rfl (b8 rfl (by exact jx cq bE (aT (by omega) (by omega)))) ?_)
 refine zm rfl (zo rfl (a_ rfl rfl rfl (bh aS (s.aG (k:=1) rfl I))) (zm rfl (zb rfl (by exact lE (aT (by omega) (by omega))) ?_)))
 refine zb rfl (by exact lE (aT (by omega) (by omega))) ?_
 refine zt rfl (ag rfl rfl dR) (by simp; omega) ?_
 refine zk 5 rfl (zo rfl (cX rfl (by rw [wK]; rfl)) ?_)
 refine zS rfl (s.gX (j:=0) rfl gy rfl rfl) (fun h s => ?_)
 refine zk 3 rfl ?_
 refine WP.ret ⟨aa,_,xh rfl (s.fE (k:=0) rfl ni gy) rfl rfl,?_⟩
 exact ⟨rfl,s.drop⟩
end
def Dk.qu (δ:Dk)(n:Nat): Int×Dk :=
 if δ.dead=true then (9,δ) else if ¬n≤δ.log.length then (1,δ) else if δ.aI=0 then (9,δ.die) else (0,{ δ.c_ with log:=δ.log.take n,aR:=n })
def Dk.dz (δ:Dk)(n:Nat): Int×Dk:=if n<δ.log.length then δ.qu n else (0,δ)
def Dk.cA (δ:Dk)(n:Nat): Int×Dk :=
 if (δ.dz n).1≠0 then δ.dz n else if (δ.dz n).2.aR<n then (δ.dz n).2.cG else (0,(δ.dz n).2)
def iD (base aD:Nat)(rs:List cg): Lg:={ base:=base,b:=logB base rs,bw:=lG 0 rs,forced:=(logB base rs).length,check:=aD }
theorem rX (n:Nat)(b:List Nat): (ic n b).length=8+b.length:=by rw [oK]
theorem Jk {h h':H}{c:Nat}{v:V}(I:c<1073741824)(he:makeSliceV Tryz.prog h 32 (.int .i64 0) (.int .i64 (c:Int))=some (v,h')): v=.sl h.next 0 0 (.exact c):=by
 obtain ⟨i,hi,i1,i2⟩:=vL
 simp only [makeSliceV,aS,hi,qS,i1,i2,V.cells,bj,bY,cQ,dO] at he
 rw [show (decide ((0:Int)≤0)&&decide ((0:Int)≤(c:Int))&&decide ((c:Int)<1073741824)&&Nat.ble 1 4096&&Nat.beq (0+1) 1&&Nat.ble 1 1)=true by simp; omega,ah] at he
 exact (congrArg Prod.fst (bt he)).symm
theorem HR {h h':H}{id c n:Nat}{x v:V}{m:List Nat}(J:View h x m)(I:n+m.length≤c)(he:appendV Tryz.prog h #[32,32] (.sl id 0 n (.exact c)) x=some (v,h')): v=.sl id 0 (n+m.length) (.exact c):=by
 obtain ⟨i,hi,i1,i2⟩:=vL
 unfold appendV at he
 simp only [aS,hi,qS,i1,i2,V.cells,bj,bY,B7 J] at he
 rw [show (Nat.ble 1 1&&Nat.ble 1 4096&&Nat.beq (0+1) 1)=true from rfl,ah] at he
 cases hm:Nat.beq m.length 0 with
 | true =>
  rw [hm,ah] at he
  rw [beq_iff.1 hm]; exact (congrArg Prod.fst (bt he)).symm
 | false =>
  rw [hm,az,aO.2 I,ah] at he
  split at he
  ·exact (congrArg Prod.fst (bt he)).symm
  ·cases he
theorem OC {id c n:Nat}{l:List Nat}(hn:n≤l.length): cR (bG (.sl id 0 l.length (.exact c)) l) (bG (.sl id 0 n (.exact c)) (l.take n)):=by
 intro m r ⟨h1,h2⟩
 have U:(l.take n).length=n:=by rw [dJ]; omega
 refine ⟨fun b hb=>h1 b (gr hb),.inr (.inl ?_)⟩
 rcases h2 with ⟨e,_⟩ | ⟨J,cs,c',e,hg,hc⟩ | ⟨J,e,_⟩
 ·cases e
 ·injection e with e1 _ _ I
  injection I with I
  subst e1; subst I
  refine ⟨_,ofBytes (l.drop n)++cs,_,by rw [U],?_,?_⟩
  ·rw [←bP,←rD,De]; exact hg
  ·rw [bC,dL,nF,U]; omega
 ·injection e with _ _ _ I; cases I
section
variable {told:dF} {h:H} {S:List ax} {X:ax} {p:Nat} {δ:Dk}
theorem Jl (hT:W told){x:V}{l:List Nat}(s:Sat h (X::S))(J:cR X (cV x l))(hl:l.length<1073741824):
  Call ⟨Tryz.prog,told⟩ 65 [x] h fun v h'=>∃id,v=.sl id 0 l.length (.exact l.length)∧Sat h' (bG v l::X::S):=by
 refine Call.of_wp (hT.free _ rfl) Tryz.func65 rfl rfl (zK 7 rfl (zo rfl (a_ rfl rfl rfl (bh aS (s.aG (k:=0) rfl J))) ?_))
 obtain ⟨v1,h1,e1,s1⟩:=EF s hl
 have U:=Jk hl e1
 subst U
 refine aB.any rfl rfl rfl (OpR.of (R:=fun v h'=>v=.sl h.next 0 0 (.exact l.length)∧h'=h1) (pZ rfl rfl e1) ⟨rfl,rfl⟩) ?_
 rintro v h' ⟨rfl,rfl⟩
 refine zm rfl ?_
 obtain ⟨v2,h2,e2,s2⟩:=Cl s1 J (by simp; omega)
 have I:=HR (s1.aG (k:=1) rfl J) (by omega) e2
 rw [dU] at I
 subst I
 refine aB.any rfl rfl rfl (OpR.of (R:=fun v h'=>v=.sl h.next 0 l.length (.exact l.length)∧h'=h2) (oB rfl rfl e2) ⟨rfl,rfl⟩) ?_
 rintro v h' ⟨rfl,rfl⟩
 exact zk 2 rfl (WP.ret ⟨aa,_,rfl,_,rfl,s2⟩)
theorem L0 (I:W told)(s:Sat h (aC p δ::S))(J:δ.dead=false)(U:δ.log.length<1073741824): Call ⟨Tryz.prog,told⟩ 103 [.ptr p 0] h fun v h' =>
  ∃id,v=.bD [.sl id 0 δ.log.length (.exact δ.log.length),.int .i64 0]∧Sat h' (bG (.sl id 0 δ.log.length (.exact δ.log.length)) δ.log::aC p δ::S):=by
 obtain ⟨pg,wt,nw,lg,mk,tn,tl,ops,s⟩:=br.1 s
 refine Call.of_wp (I.free _ rfl) Tryz.func103 rfl rfl (zK 10 rfl (zf rfl (je _ _) (zh rfl ((aV rfl (s.ld (k:=0) rfl jV rfl))) (J) (zk 7 rfl (zf rfl (jd _ _) (zl rfl (s.ld (k:=0) rfl bL rfl) (zc rfl (Jl I (s.ae [4]) (bI _ _) U) ?_)))))))
 rintro v h ⟨id,rfl,s⟩
 exact zk 3 rfl (WP.ret ⟨aa,_,rfl,id,rfl,(br.2 ⟨pg,wt,nw,lg,mk,tn,tl,ops,s.ae [2,2,2,2,1,1,1,1,0]⟩).ae [1]⟩)
end
section
variable {told:dF} {h:H} {S:List ax} {X:ax} {v b pv:V} {l j:List Nat} {q p base aD n:Nat} {δ:Dk}
theorem aae {id m n c:Nat}: slR (.sl id 0 m (.exact c)) 0 n=.sl id 0 n (.exact c):=by
 simp only [slR,vA,iO,kj]
 cases Nat.beq c 0 <;> rfl
theorem Dk.Ok.dz {δ:Dk}{n:Nat}(h:δ.Ok): (δ.dz n).2.Ok:=by
 have J:=h.len
 unfold Dk.dz Dk.qu
 split
 ·split
  ·exact h
  ·split
   ·exact h
   ·split
    ·exact h.die
    ·have I:=h.c_
     exact ⟨I.aI,by show (δ.log.take n).length≤_; rw [dJ]; omega,I.room,I.now,I.aq,by show n≤(δ.log.take n).length; rw [dJ]; omega,I.many⟩
 ·exact h
theorem Dk.Ok.cA {δ:Dk}{n:Nat}(h:δ.Ok): (δ.cA n).2.Ok:=by
 unfold Dk.cA
 split
 ·exact h.dz
 ·split
  ·exact h.dz.cG
  ·exact h.dz
theorem Wk (hT:W told)(s:Sat h (aC p δ::S))(J:δ.Ok): Call ⟨Tryz.prog,told⟩ 104 [.ptr p 0,.int .i64 (n:Int)] h fun v h'=>v=.int .i64 (δ.qu n).1∧Sat h' (aC p (δ.qu n).2::S):=by
 have hl:=J.len
 refine (PN hT s J.aI (by omega)).mono fun v h' hr => ?_
 unfold Dk.qu
 rcases hr with ⟨I,rfl,s⟩ | ⟨I,h1,rfl,s⟩ | ⟨I,h1,h2,U,rfl,s⟩ | ⟨I,h1,h2,U,rfl,s⟩
 ·rw [aj I]; exact ⟨rfl,s⟩
 ·rw [af (by rw [I]; decide),aj (by omega)]; exact ⟨rfl,s⟩
 ·rw [af (by rw [I]; decide),af (by omega),aj U]; exact ⟨rfl,s⟩
 ·rw [af (by rw [I]; decide),af (by omega),af U]; exact ⟨rfl,s⟩
theorem QJ (U:WR told){r:cg}{a:Nat}{pre rest:List Nat}(I:r.Ok)(ha:pre.length=a)(hl:l=pre++(ic n r.bd++rest))(J:l.length≤1073741824)(s:Sat h (X::S))(hX:cR X (cV v l)):
  Call ⟨Tryz.prog,told⟩ 57 [v,.int .i64 (a:Int),.int .u64 (n:Int)] h fun x h'=>∃dt ch cs,x=.bD [.agg (iy r.kd r.tx r.pv r.nx dt ch),.int .i64 ((a+r.len:Nat):Int),.int .i64 0]∧Sat h' (X::bG dt r.data::.arr 4 ch cs::cT cs r.aP::S):=by
 refine (HO U I.good I.kd I.rd rfl I.len ha hl J s hX).mono fun x h' hx => ?_
 have e:a+r.len=a+8+(dm r.kd r.tx r.pv r.nx r.data r.aP).length:=by rw [cg.len,cg.bd]; omega
 rw [e]
 exact hx
theorem Kt {kd n e:Int}{tx pv nx:Nat}{dt ch:V}(I:dt.beq dt=true)(J:ch.beq ch=true): (V.bD [.agg (iy kd tx pv nx dt ch),.int .i64 n,.int .i64 e]).beq (V.bD [.agg (iy kd tx pv nx dt ch),.int .i64 n,.int .i64 e])=true:=by
 simp only [V.beq,V.beqL,iy,I,J,lD,dB,iq,ah]
noncomputable def woL : Code:=cJ [1,1,1,1,1,1,1,0,0,0] ((Tryz.f58.body).getD .skip)
theorem L1 (hT:WR told)(E5:l.length≤16777216)(wP:base+l.length≤1099511627776)(hj:ru j): ∀(rs:List cg) (a:Nat) (pre st:List Nat) (J:V) (h:H) (E:List (Nat×V)) (Q:Ex→List (Nat×V)→H→Prop),
  (∀r∈rs,r.Ok)→l=pre++(logB (base+a) rs++j)→pre.length=a→st.length≤a→Sat h (pt q (.cells 6 (yM p base b J 0 aD) false)::bG b l::.arr 1 J (gD st)::S) →
  Has E [(0,pv),(6,.ptr q 0),(7,.int .i64 (a:Int))] →
  (∀E' h' I,Has E' [(0,pv),(6,.ptr q 0),(7,.int .i64 ((a+(logB (base+a) rs).length:Nat):Int))]→Sat h' (pt q (.cells 6 (yM p base b I 0 aD) false)::bG b l::.arr 1 I (gD (st++lG a rs))::S)→Q (.exit 1) E' h') →
  WP ⟨Tryz.prog,told⟩ 134 (.loop woL) E h Q:=by
 have hW:=hT.w
 intro rs
 induction rs with
 | nil =>
  intro a pre st J h E Q _ hl ha _ s hE hq
  have hq:∀E' h',Has E' [(0,pv),(6,.ptr q 0),(7,.int .i64 (a:Int))]→Sat h' (pt q (.cells 6 (yM p base b J 0 aD) false)::bG b l::.arr 1 J (gD st)::S)→Q (.exit 1) E' h':=fun E' h' h1 h2=>hq E' h' J h1 (by rw [lG,bT]; exact h2)
  have hlen:l.length=a+j.length:=by rw [hl,logB,cU,bC,ha]
  refine WP.loop (WP.has hE (zK 6 rfl (zf rfl (eD _ _) (zl rfl (s.ld (k:=0) rfl bL rfl) (zo rfl (a_ rfl rfl rfl (bh aS (s.aG (k:=1) rfl (bI _ _)))) ?_)))))
  by_cases hz:j.length=0
  ·skip
   refine zh rfl (ag rfl rfl bx) (by simp; omega) ?_
   exact zk 2 rfl (WP.exit (hq _ _ ⟨rfl,rfl,rfl,aa⟩ s))
  ·skip
   refine zt rfl (ag rfl rfl bx) (by simp; omega) ?_
   refine zk 3 rfl (WP.block (zw ?_))
   have s0:=s
   have Vs:=cY (s.buf (k:=1) rfl).view
   refine WP.drawn [ai,ai,ai,ai,ai,ai,ai,ai,ai,ai,ai,ai,ai,some (1,2),some (1,2),some (1,3),some (1,3),ai,ai,ai,ai] rfl (by kernel_rfl) (by kernel_rfl) ?_
   refine zM rfl (zN rfl (zF rfl (eD _ _) (zL rfl (s.ld (k:=0) rfl bL rfl) (zM rfl (zM rfl (zN rfl (zF rfl (gz _ _) (zL rfl (s.ld (k:=0) rfl fX rfl) (zM rfl (aA.op rfl rfl rfl (by simp only [isEff,cq]) (b8 rfl (by exact jx bE cq (eR (by omega) (by omega)))) ?_))))))))))
   refine zO rfl (ag rfl rfl (by exact bO (eR (by omega) (by omega)))) ?_
   refine aA.any rfl rfl rfl rfl (OpR.call rfl rfl rfl rfl (LZ (n:=base+a) (a:=a) hW hj ha hl (by omega) (s.ae [1]) (bI _ _))) ?_
   rintro x h ⟨rfl,s⟩
   dsimp only [yM,aU,bringA] at s
   have s1:=s
   have U:=Kt (kd:=0) (tx:=0) (pv:=0) (nx:=0) (dt:=.bA) (ch:=.bA) (n:=0) (e:=4) rfl rfl
   have Hy:=AA (kd:=0) (tx:=0) (pv:=0) (nx:=0) (dt:=.bA) (ch:=.bA) rfl rfl
   refine zM rfl (zO rfl (cz rfl rfl) (zO rfl (cz rfl rfl) (zO rfl (cz rfl rfl) (aA.any rfl rfl rfl rfl (OpR.cO s (cH qU)) ?_))))
   rintro v h ⟨p8,rfl,s⟩
   dsimp only [V.cells,List.length_cons,List.length_nil,Nat.reduceAdd] at s
   have s2:=s
   refine aA.gV rfl rfl rfl (OpR.eU rfl rfl rfl (s.gX (j:=0) rfl gy rfl rfl)) ?_
   rintro v h ⟨rfl,s⟩
   dsimp only [setA] at s
   refine zA rfl (zA rfl ?_)
   refine aA.nil ⟨⟨aa,aa,aa,aa,aa,aa,aa,aa,aa,aa,aa,aa,aa,fun _ _=>.inr ⟨rfl,⟨_,bk rfl⟩,U⟩,fun _ _=>.inr ⟨rfl,⟨_,cz rfl rfl⟩,Hy⟩,fun _ _=>.inr ⟨rfl,⟨_,cz rfl rfl⟩,aW _ rfl⟩,fun _ _=>.inr ⟨rfl,⟨_,cz rfl rfl⟩,aW _ rfl⟩,aa,aa,aa,aa,aa⟩,?_⟩
   exact zK 4 rfl (zt rfl (ag rfl rfl aX) (rfl) (zk 2 rfl (WP.exit (hq _ _ ⟨rfl,rfl,rfl,aa⟩ ((s.del 0).ae [1,0,0])))))
 | cons r rs ih =>
  intro a pre st J h E Q mu hl ha gn s hE hq
  have hr:=mu r bp
  have EW:(ic (base+a) r.bd).length=r.len:=by rw [rX]; rfl
  have hlen:l.length=a+(r.len+((logB (base+a+r.len) rs).length+j.length)):=by rw [hl,logB]; simp only [bC,ha,EW]; omega
  have hr8:8≤r.len:=by rw [cg.len]; omega
  refine WP.loop (WP.has hE (zK 6 rfl (zf rfl (eD _ _) (zl rfl (s.ld (k:=0) rfl bL rfl) (zo rfl (a_ rfl rfl rfl (bh aS (s.aG (k:=1) rfl (bI _ _)))) (zt rfl (ag rfl rfl bx) (by simp; omega) ?_))))))
  refine zk 3 rfl (WP.block (zw ?_))
  have s0:=s
  have Vs:=cY (s.buf (k:=1) rfl).view
  refine WP.drawn [ai,ai,ai,ai,ai,ai,ai,ai,ai,ai,ai,ai,ai,some (1,2),some (1,2),some (1,3),some (1,3),ai,ai,ai,ai] rfl (by kernel_rfl) (by kernel_rfl) ?_
  refine zM rfl (zN rfl (zF rfl (eD _ _) (zL rfl (s.ld (k:=0) rfl bL rfl) (zM rfl (zM rfl (zN rfl (zF rfl (gz _ _) (zL rfl (s.ld (k:=0) rfl fX rfl) (zM rfl (aA.op rfl rfl rfl (by simp only [isEff,cq]) (b8 rfl (by exact jx bE cq (eR (by omega) (by omega)))) ?_))))))))))
  refine zO rfl (ag rfl rfl (by exact bO (eR (by omega) (by omega)))) ?_
  refine aA.any rfl rfl rfl rfl (OpR.call rfl rfl rfl rfl (QJ (r:=r) (n:=base+a) (a:=a) (rest:=logB (base+a+r.len) rs++j) hT hr ha (by rw [hl,logB,bP]) (by omega) (s.ae [1]) (bI _ _))) ?_
  rintro x h ⟨dt,ch,cs,rfl,s⟩
  dsimp only [yM,aU,bringA] at s
  have jM:=(s.buf (k:=1) rfl).view.cells
  have me:=s.kF (j:=2) rfl
  have A0:=cY (s.buf (k:=1) rfl).view
  have gn:[V.int .i64 (r.kd:Int),V.int .u64 (r.tx:Int),V.int .u64 (r.pv:Int),V.int .u64 (r.nx:Int),dt,ch].all storable=true:=mP jM.2 me.2.1
  have U:=Kt (kd:=r.kd) (tx:=r.tx) (pv:=r.pv) (nx:=r.nx) (n:=((a+r.len:Nat):Int)) (e:=0) A0 me.2.2
  have Hy:=AA (kd:=r.kd) (tx:=r.tx) (pv:=r.pv) (nx:=r.nx) A0 me.2.2
  have s1:=s
  refine zM rfl (zO rfl (cz rfl rfl) (zO rfl (cz rfl rfl) (zO rfl (cz rfl rfl) (aA.any rfl rfl rfl rfl (OpR.cO s (cH qU)) ?_))))
  rintro v h ⟨p8,rfl,s⟩
  dsimp only [V.cells,List.length_cons,List.length_nil,Nat.reduceAdd] at s
  have s2:=s
  refine aA.gV rfl rfl rfl (OpR.eU rfl rfl rfl (s.gX (j:=0) rfl gy rfl gn)) ?_
  rintro v h ⟨rfl,s⟩
  dsimp only [setA] at s
  refine zA rfl (zA rfl ?_)
  refine aA.nil ⟨⟨aa,aa,aa,aa,aa,aa,aa,aa,aa,aa,aa,aa,aa,fun _ _=>.inr ⟨rfl,⟨_,bk rfl⟩,U⟩,fun _ _=>.inr ⟨rfl,⟨_,cz rfl rfl⟩,Hy⟩,fun _ _=>.inr ⟨rfl,⟨_,cz rfl rfl⟩,aW _ rfl⟩,fun _ _=>.inr ⟨rfl,⟨_,cz rfl rfl⟩,aW _ rfl⟩,aa,aa,aa,aa,aa⟩,?_⟩
  refine zK 4 rfl (zh rfl (ag rfl rfl aX) (rfl) ?_)
  have s:=((((s.ae [5,5,1]).del 3).del 3).del 3).del 3
  dsimp only [bringA,getA,aU] at s
  refine zk 7 rfl (zf rfl (iS _ _) (zl rfl (s.ld (k:=0) rfl qf rfl) (zm rfl ?_)))
  obtain ⟨i1,lp,jL,sn⟩:=w6
  obtain ⟨iv,h1,e1,s1⟩:=nN (P:=Tryz.prog) (k:=1) (x:=.int .i64 (a:Int)) s eu EE jK rfl (by decide) (by decide) rfl rfl
  dsimp only [V.cells] at s1
  refine aB.any rfl rfl rfl (OpR.of (R:=fun v h'=>v=iv∧h'=h1) (p_ rfl e1) ⟨rfl,rfl⟩) ?_
  rintro v h' ⟨rfl,rfl⟩
  obtain ⟨I,h2,e2,s2⟩:=jo (s1.ae [2,0]) eu lp EE jL (by omega) rfl (by decide) (by simp only [j8,bj,bY]; omega)
  dsimp only [aU,bringA] at s2
  refine aB.any rfl rfl rfl (OpR.of (R:=fun v h'=>v=I∧h'=h2) (oB rfl rfl e2) ⟨rfl,rfl⟩) ?_
  rintro v h' ⟨rfl,rfl⟩
  have hv:=s2.kF (j:=0) rfl
  refine zk 2 rfl (zf rfl (iS _ _) (zS rfl (s2.dZ (k:=2) rfl PB rfl (by decide) hv.1 hv.2.1) ?_))
  intro h s
  dsimp only [Nat.reduceAdd,List.set,setA] at s
  refine za rfl (zv ?_)
  have s:=(s.ae [2,2,0]).del 3
  refine ih (a+r.len) (pre++ic (base+a) r.bd) (st++[a]) _ _ _ Q (fun x hx=>mu x (bl _ hx)) (by rw [hl,logB]; simp only [bP,gv]) (by rw [bC,ha,EW]) (by simp; omega) (by rw [show gD (st++[a])=gD st++[.int .i64 (a:Int)] by simp [gD]]; exact s) ⟨rfl,rfl,rfl,aa⟩ (fun E' h' I gq s' => ?_)
  refine hq E' h' I ?_ ?_
  ·rw [logB,bC,EW,←gv,gv base]
   exact gq
  ·rw [lG,List.append_cons]
   exact s'
noncomputable def woE : Code:=cJ [1,1,1,1,1,1,1,1,1] ((Tryz.f58.body).getD .skip)
theorem CY (hT:W told){st:List Nat}{sv:V}(s:Sat h (pt q (.cells 6 (yM p base b sv 0 aD) false)::bG b l::.arr 1 sv (gD st)::aC p δ::S))(hf:δ.aI<4294967296){E:List (Nat×V)}{Q:Ex→List (Nat×V)→H→Prop}(hE:Has E [(0,.ptr p 0),(6,.ptr q 0)])
 {y:Int×Dk}(J:y=if δ.aR<l.length then δ.cG else (0,δ))
 (h1:∀E' h',y.1≠0→look E' 2=some .cD→look E' 3=some (.int .i64 y.1)→Sat h' (aC p y.2::S)→Q .ret E' h')
 (h2:∀E' h',y.1=0→look E' 2=some (.ptr q 0)→look E' 3=some (.int .i64 0)→Sat h' (bf q p { base:=base,b:=l,bw:=st,forced:=l.length,check:=aD }::aC p y.2::S)→Q .ret E' h'):
  WP ⟨Tryz.prog,told⟩ 134 woE E h Q:=by
 refine WP.has hE (zK 2 rfl ?_)
 have U:=s
 have I:=cY (s.buf (k:=1) rfl).view
 refine WP.drawn [none,none,some (0,2),some (0,2),some (0,2),some (0,2),some (0,2),none] rfl (by kernel_rfl) (by kernel_rfl) ?_
 refine zM rfl (aA.any rfl rfl rfl rfl (OpR.call rfl rfl rfl rfl (A2 hT (s.ae [3]))) ?_)
 rintro v h' ⟨rfl,rfl⟩
 refine zM rfl (zN rfl (zF rfl (eD _ _) (zL rfl (s.ld (k:=0) rfl bL rfl) (zO rfl (a_ rfl rfl rfl (bh aS (s.aG (k:=1) rfl (bI _ _)))) ?_))))
 by_cases hc:δ.aR<l.length
 ·skip
  rw [aj hc] at J
  refine aA.qb rfl rfl rfl rfl (ag rfl rfl bx) (by rw [show δ.wS=δ.aR from rfl]; simp; omega) ?_
  refine aA.nil ⟨⟨aa,aa,fun _ _=>.inr ⟨rfl,⟨_,bk rfl⟩,aW _ rfl⟩,fun _ _=>.inr ⟨rfl,⟨_,jZ rfl⟩,aW _ rfl⟩,fun _ _=>.inr ⟨rfl,⟨_,jv rfl (eD _ _)⟩,aW _ rfl⟩,dP (.inr ⟨rfl,⟨_,aV rfl (U.ld (k:=0) rfl bL rfl)⟩,I⟩) (.inr ⟨rfl,⟨_,aV rfl (s.ld (k:=0) rfl bL rfl)⟩,I⟩),dP (.inr ⟨rfl,⟨_,a_ rfl rfl rfl (bh aS (U.aG (k:=1) rfl (bI _ _)))⟩,aW _ rfl⟩) (.inr ⟨rfl,⟨_,a_ rfl rfl rfl (bh aS (s.aG (k:=1) rfl (bI _ _)))⟩,aW _ rfl⟩),aa,aa⟩,?_⟩
  refine zK 4 rfl (zc rfl (Ta hT (s.ae [3]) hf) ?_)
  rintro v h ⟨rfl,s⟩
  rw [←J] at s
  rw [←J]
  by_cases h0:y.1=0
  ·skip
   rw [h0]
   refine zk 5 rfl (zh rfl (ag rfl rfl aX) (rfl) (zk 8 rfl (zf rfl (eD _ _) (zl rfl (s.ld (k:=1) rfl bL rfl) (zo rfl (a_ rfl rfl rfl (bh aS (s.aG (k:=2) rfl (bI _ _)))) (zn rfl (zf rfl (pG _ _) ?_)))))))
   refine zS rfl (by exact s.dZ (k:=1) rfl jK rfl (by decide) rfl rfl) (fun h s => ?_)
   exact zk 7 rfl (WP.ret (h2 _ _ h0 rfl rfl (c8.2 ⟨_,_,s.ae [1,1,1,0]⟩)))
  ·skip
   refine zk 5 rfl (zt rfl (ag rfl rfl aX) (by simpa using h0) ?_)
   exact zk 8 rfl (WP.ret (h1 _ _ h0 rfl rfl (((s.del 3).del 2).del 1)))
 ·skip
  rw [af hc] at J
  subst J
  refine aA.nh rfl rfl rfl rfl (ag rfl rfl bx) (by rw [show δ.wS=δ.aR from rfl]; simp; omega) ?_
  refine aA.nil ⟨⟨aa,aa,fun _ _=>.inr ⟨rfl,⟨_,bk rfl⟩,aW _ rfl⟩,fun _ _=>.inr ⟨rfl,⟨_,jZ rfl⟩,aW _ rfl⟩,fun _ _=>.inr ⟨rfl,⟨_,jv rfl (eD _ _)⟩,aW _ rfl⟩,dP (.inr ⟨rfl,⟨_,aV rfl (U.ld (k:=0) rfl bL rfl)⟩,I⟩) (.inr ⟨rfl,⟨_,aV rfl (s.ld (k:=0) rfl bL rfl)⟩,I⟩),dP (.inr ⟨rfl,⟨_,a_ rfl rfl rfl (bh aS (U.aG (k:=1) rfl (bI _ _)))⟩,aW _ rfl⟩) (.inr ⟨rfl,⟨_,a_ rfl rfl rfl (bh aS (s.aG (k:=1) rfl (bI _ _)))⟩,aW _ rfl⟩),aa,aa⟩,?_⟩
  refine zK 7 rfl (zf rfl (eD _ _) (zl rfl (s.ld (k:=0) rfl bL rfl) (zo rfl (a_ rfl rfl rfl (bh aS (s.aG (k:=1) rfl (bI _ _)))) (zn rfl (zf rfl (pG _ _) ?_)))))
  refine zS rfl (by exact s.dZ (k:=0) rfl jK rfl (by decide) rfl rfl) (fun h s => ?_)
  exact zk 7 rfl (WP.ret (h2 _ _ rfl rfl rfl (c8.2 ⟨_,_,s⟩)))
noncomputable def woR : Code:=cJ [1,1,1,1,1,1] ((Tryz.f58.body).getD .skip)
theorem Fe (hT:WR told){rs:List cg}{xP:Nat}(hb:b=.sl xP 0 δ.log.length (.exact δ.log.length))(s:Sat h (pt q (.cells 6 (yM p base b .bA 0 aD) false)::bG b δ.log::aC p δ::S))(U:δ.Ok)(wP:base+δ.log.length≤1099511627776)
 (I:δ.log=logB base rs++j)(mu:∀r∈rs,r.Ok)(hj:ru j){E:List (Nat×V)}{Q:Ex→List (Nat×V)→H→Prop}(hE:Has E [(0,.ptr p 0),(6,.ptr q 0)])
 (h1:∀E' h',(δ.cA (logB base rs).length).1≠0→look E' 2=some .cD→look E' 3=some (.int .i64 (δ.cA (logB base rs).length).1)→Sat h' (aC p (δ.cA (logB base rs).length).2::S)→Q .ret E' h')
 (h2:∀E' h',(δ.cA (logB base rs).length).1=0→look E' 2=some (.ptr q 0)→look E' 3=some (.int .i64 0)→Sat h' (bf q p (iD base aD rs)::aC p (δ.cA (logB base rs).length).2::S)→Q .ret E' h'):
  WP ⟨Tryz.prog,told⟩ 134 woR E h Q:=by
 have hW:=hT.w
 have E5:=U.len
 have hlen:δ.log.length=(logB base rs).length+j.length:=by rw [I,bC]
 subst hb
 have N_:δ.log.take (logB base rs).length=logB base rs:=by rw [I,kN rfl]
 generalize ho:δ.cA (logB base rs).length=y at h1 h2
 unfold Dk.cA at ho
 refine WP.has hE (zK 5 rfl (WP.block ?_))
 refine L1 (pv:=.ptr p 0) hT E5 wP hj rs 0 [] [] .bA h _ _ mu (by rw [cU]; exact I) rfl (by simp) ((s.ae [0,0]).qg.ae [1,1,0]) ⟨rfl,rfl,rfl,aa⟩ (fun E h sv hE s => ?_)
 rw [iO,dU] at hE
 rw [cU] at s
 refine WP.has hE (zK 6 rfl (zf rfl (eD _ _) (zl rfl (s.ld (k:=0) rfl bL rfl) (zo rfl (a_ rfl rfl rfl (pL rfl aS)) ?_))))
 have J:(δ.dz (logB base rs).length)=if (logB base rs).length<δ.log.length then δ.qu (logB base rs).length else (0,δ):=rfl
 by_cases bX:(logB base rs).length<δ.log.length
 ·skip
  rw [aj bX] at J
  refine zt rfl (ag rfl rfl bx) (by simp; omega) ?_
  refine zk 7 rfl (zc rfl (Wk (n:=(logB base rs).length) hW (s.ae [3]) U) ?_)
  rintro v h ⟨rfl,s⟩
  rw [←J] at s
  rw [←J]
  by_cases h0:(δ.dz (logB base rs).length).1=0
  ·skip
   rw [af (not_not_intro h0)] at ho
   rw [h0]
   refine zk 5 rfl (zh rfl (ag rfl rfl aX) (rfl) ?_)
   have lJ:=(ia (s.buf (k:=2) rfl).view (b:=(logB base rs).length) (by omega)).1
   rw [aae] at lJ
   refine zk 7 rfl (zf rfl (eD _ _) (zl rfl (s.ld (k:=1) rfl bL rfl) (zm rfl (zo rfl (cC (p:=none) (q:=some (.int .i64 ((logB base rs).length:Int))) (m:=none) (p':=none) (q':=some (logB base rs).length) (m':=none) rfl rfl rfl rfl rfl (by simp [gQ,bndV]) rfl lJ) ?_))))
   refine zn rfl (zf rfl (eD _ _) (zS rfl (s.dZ (k:=1) rfl jy rfl (by decide) rfl rfl) ?_))
   intro h s
   have s:=(s.ae [2]).ga (OC (n:=(logB base rs).length) (by omega))
   rw [N_] at s
   exact zv (CY (l:=logB base rs) hW (s.ae [2,0,1,0]) U.dz.aI ⟨rfl,rfl,aa⟩ ho.symm h1 h2)
  ·skip
   rw [aj h0] at ho
   rw [ho] at h0 s
   rw [ho]
   refine zk 5 rfl (zt rfl (ag rfl rfl aX) (by simpa using h0) ?_)
   exact zk 8 rfl (WP.ret (h1 _ _ h0 rfl rfl (((s.del 3).del 2).del 1)))
 ·skip
  rw [af bX] at J
  rw [J,af (by simp)] at ho
  refine zh rfl (ag rfl rfl bx) (by simp; omega) ?_
  refine zk 3 rfl ?_
  have e:δ.log=logB base rs:=by
   rw [fI (by omega)] at N_
   exact N_
  exact CY (l:=logB base rs) hW (by rw [e] at s; exact s) U.aI ⟨rfl,rfl,aa⟩ ho.symm h1 h2
def OD (mark:List Nat)(base aD:Nat): Prop:=(mark=[]∧base=1∧aD=0)∨mark=le 8 base++le 8 aD
theorem QK (hT:WR told){rs:List cg}(s:Sat h (aC p δ::S))(U:δ.Ok)(hd:δ.dead=false)(hm:OD δ.mark base aD)(I:base+δ.log.length≤1099511627776)(L2:aD<18446744073709551616)
 (J:δ.log=logB base rs++j)(mu:∀r∈rs,r.Ok)(hj:ru j):
  Call ⟨Tryz.prog,told⟩ 58 [.ptr p 0] h fun v h'=>((δ.cA (logB base rs).length).1≠0∧v=.bD [.cD,.int .i64 (δ.cA (logB base rs).length).1]∧Sat h' (aC p (δ.cA (logB base rs).length).2::S)) ∨
   ((δ.cA (logB base rs).length).1=0∧∃q,v=.bD [.ptr q 0,.int .i64 0]∧Sat h' (bf q p (iD base aD rs)::aC p (δ.cA (logB base rs).length).2::S)):=by
 have hW:=hT.w
 have E5:=U.len
 have Yu:δ.mark.length≤64:=by rcases hm with ⟨hm,_⟩ | hm <;> rw [hm] <;> simp [dH]
 refine Call.of_wp (hW.free _ rfl) Tryz.func58 rfl rfl (zK 8 rfl (zc rfl (Cv hW s Yu) ?_))
 rintro v h (⟨BV,_,_⟩ | ⟨_,b0,rfl,s⟩)
 ·rw [hd] at BV; cases BV
 refine zk 10 rfl (zh rfl (ag rfl rfl aX) (rfl) (zk 6 rfl (zo rfl (cX rfl (by rw [RB]; rfl)) ?_)))
 refine aB.cO s rfl rfl rfl (gw rfl rfl) (fun Yv h s => ?_)
 dsimp only [V.cells,List.take,List.length_cons,List.length_nil,Nat.reduceAdd,List.drop,List.cons_append,List.nil_append] at s
 refine zk 7 rfl ?_
 have s:=s.ae [2,0,0]
 dsimp only [bringA,getA,aU] at s
 refine zc rfl (L0 hW s hd (by omega)) ?_
 rintro v h ⟨xP,rfl,s⟩
 refine zk 4 rfl (zf rfl (eD _ _) (zS rfl (s.dZ (k:=2) rfl jy rfl (by decide) rfl rfl) ?_))
 intro h s
 dsimp only [Nat.reduceAdd,List.set,setA] at s
 refine zk 5 rfl (zh rfl (ag rfl rfl aX) (rfl) (zk 7 rfl (zo rfl (a_ rfl rfl rfl (bh aS (s.aG (k:=3) rfl (bI _ _)))) (zv (WP.block (zg rfl ?_))))))
 rcases hm with ⟨hm,rfl,rfl⟩ | hm
 ·skip
  refine zt rfl (ag rfl rfl bR) (by rw [hm]; rfl) ?_
  refine za rfl (zv (zi rfl (WP.skip ?_)))
  exact Fe hT rfl ((s.ae [2,0,0]).del 3) U I J mu hj ⟨rfl,rfl,aa⟩ (fun E' h' h0 e1 e2 s'=>⟨aa,_,ve e1 e2,.inl ⟨h0,rfl,s'⟩⟩) (fun E' h' h0 e1 e2 s'=>⟨aa,_,ve e1 e2,.inr ⟨h0,_,rfl,s'⟩⟩)
 ·skip
  have YY:δ.mark.length=16:=by rw [hm]; simp [dH]
  refine zh rfl (ag rfl rfl bR) (by rw [YY]; rfl) ?_
  refine zk 5 rfl (zt rfl (ag rfl rfl bR) (by rw [YY]; rfl) ?_)
  refine zk 3 rfl ?_
  have w1:δ.mark.take 8=le 8 base:=by rw [hm,kN (by rw [dH])]
  have w2:δ.mark.drop 8=le 8 aD:=by rw [hm,sU (by rw [dH])]
  have hbv:=cY (s.buf (k:=3) rfl).view
  have s0:=s
  refine WP.drawn [some (0,3),some (0,4),ai,ai,ai,some (0,2),some (0,2),ai,ai,ai,ai,ai,ai,ai] rfl (by kernel_rfl) (by kernel_rfl) ?_
  refine zM rfl (zM rfl (zM rfl (zO rfl (cC (p:=none) (q:=some (.int .i64 8)) (m:=none) (p':=none) (q':=some 8) (m':=none) rfl rfl rfl rfl rfl rfl rfl (ia (s.buf (k:=3) rfl).view (b:=8) (by omega)).1) ?_)))
  refine aA.any rfl rfl rfl rfl (OpR.call rfl rfl rfl rfl (pN hW s (k:=3) rfl (wN (bI _ _) (b:=8) (by omega)) (by rw [w1,dH]; decide))) ?_
  rintro v h' ⟨rfl,rfl⟩
  rw [w1,uz,ik (by omega)]
  refine zM rfl (zO rfl (cC (p:=some (.int .i64 8)) (q:=none) (m:=none) (p':=some 8) (q':=none) (m':=none) rfl rfl rfl rfl rfl rfl rfl (ej (s.buf (k:=3) rfl).view (a:=8) (by omega)).1) ?_)
  refine aA.any rfl rfl rfl rfl (OpR.call rfl rfl rfl rfl (pN hW s (k:=3) rfl (nO (bI _ _) (a:=8) (by omega)) (by rw [w2,dH]; decide))) ?_
  rintro v h' ⟨rfl,rfl⟩
  rw [w2,uz,ik (by omega)]
  refine zN rfl (zF rfl (gz _ _) (aA.gV rfl rfl rfl (OpR.eU rfl rfl rfl (s.dZ (k:=2) rfl qT rfl (by decide) rfl rfl)) ?_))
  rintro v h ⟨rfl,s⟩
  have s2:=s
  refine zN rfl (zF rfl (pH _ _) (aA.gV rfl rfl rfl (OpR.eU rfl rfl rfl (s.dZ (k:=2) rfl qT rfl (by decide) rfl rfl)) ?_))
  rintro v h ⟨rfl,s⟩
  have A4:=cY (ej (s0.buf (k:=3) rfl).view (a:=8) (by omega)).2.1
  refine aA.nil ⟨⟨fun _ _=>.inr ⟨rfl,⟨_,bk rfl⟩,aW _ rfl⟩,fun _ _=>.inr ⟨rfl,⟨_,bk rfl⟩,aW _ rfl⟩,aa,aa,aa,fun _ _=>.inr ⟨rfl,⟨_,bk rfl⟩,hbv⟩,dP (.inr ⟨rfl,⟨_,cC (p:=some (.int .i64 8)) (q:=none) (m:=none) (p':=some 8) (q':=none) (m':=none) rfl rfl rfl rfl rfl rfl rfl (ej (s0.buf (k:=3) rfl).view (a:=8) (by omega)).1⟩,A4⟩) (.inr ⟨rfl,⟨_,cC (p:=some (.int .i64 8)) (q:=none) (m:=none) (p':=some 8) (q':=none) (m':=none) rfl rfl rfl rfl rfl rfl rfl (ej (s0.buf (k:=3) rfl).view (a:=8) (by omega)).1⟩,A4⟩),aa,aa,aa,aa,aa,aa,aa,aa⟩,?_⟩
  exact Fe hT rfl ((s.ae [2,0,0]).del 3) U I J mu hj ⟨rfl,rfl,aa⟩ (fun E' h' h0 e1 e2 s'=>⟨aa,_,ve e1 e2,.inl ⟨h0,rfl,s'⟩⟩) (fun E' h' h0 e1 e2 s'=>⟨aa,_,ve e1 e2,.inr ⟨h0,_,rfl,s'⟩⟩)
end
def bornE (n:Int)(c:Nat): bW→Nat
 | []=>c
 | e::l=>if e.1=n then e.2.2 else bornE n c l
def n_ (n:Int)(z:V)(c:Nat): bW→bW
 | []=>[(n,z,c)]
 | e::l=>if e.1=n then e::l else e::n_ n z c l
theorem QL {n:Int}{c:Nat}: ∀ {l:bW} {b:Nat},b≤c→eS c b l→b≤bornE n c l:=by
 intro l
 induction l with
 | nil=>intro b h _; exact h
 | cons e l J =>
  intro b h I
  simp only [bornE]
  by_cases he:e.1=n
  ·rw [aj he]; exact I.1
  ·rw [af he]
   have:=J (b:=e.2.2+1) I.2.1 I.2.2
   have:=I.1
   omega
theorem Ku {n:Int}{z:V}{c:Nat}: ∀ {l:bW},lookE n l=none→n_ n z c l=l++[(n,z,c)]∧bornE n c l=c:=by
 intro l
 induction l with
 | nil=>intro _; exact ⟨rfl,rfl⟩
 | cons e l I =>
  intro h
  simp only [lookE] at h
  by_cases he:e.1=n
  ·rw [aj he] at h; cases h
  ·rw [af he] at h
   have g:=I h
   exact ⟨by simp only [n_,af he,g.1,fg],by simp only [bornE,af he,g.2]⟩
theorem TR {n:Int}{z u:V}{c:Nat}: ∀ {l:bW},lookE n l=some u→n_ n z c l=l:=by
 intro l
 induction l with
 | nil=>intro h; cases h
 | cons e l I =>
  intro h
  simp only [lookE] at h
  by_cases he:e.1=n
  ·simp only [n_,aj he]
  ·rw [af he] at h
   simp only [n_,af he,I h]
theorem OE {n:Int}{c:Nat}: ∀ {l:bW} {i j:Nat} {u:V},idxE n l i=some (j,u)→i≤j∧nth (l.map ei) (j-i)=some (.int .i64 n,u,bornE n c l):=by
 intro l
 induction l with
 | nil=>intro i j u h; cases h
 | cons e l I =>
  intro i j u h
  simp only [idxE] at h
  by_cases he:e.1=n
  ·rw [aj he] at h
   injection h with h; injection h with J U
   subst J; subst U
   refine ⟨aL _,?_⟩
   simp only [bornE,aj he,Aa,bH,nth,ei,he]
   rfl
  ·rw [af he] at h
   obtain ⟨g1,g2⟩:=I h
   refine ⟨by omega,?_⟩
   simp only [bornE,af he,bH]
   rw [show j-i=(j-(i+1))+1 by omega]
   simpa [fM] using g2
theorem TS {n:Int}{z v:V}{c:Nat}: ∀ {l:bW} {b i:Nat},b≤c→eS c b l→∃j,findBorn ((n_ n z c l).map ei) (bornE n c l:Int) i=some (i+j)∧setNth ((n_ n z c l).map ei) j (fun e=>(e.1,v,e.2.2))=(jz n v c l).map ei:=by
 intro l
 induction l with
 | nil =>
  intro b i h _
  refine ⟨0,?_,rfl⟩
  simp only [n_,bornE,bH,List.map_nil,ei,findBorn,lD,ah,iO]
 | cons e l J =>
  intro b i h I
  by_cases he:e.1=n
  ·refine ⟨0,?_,?_⟩
   ·simp only [n_,bornE,aj he,bH,ei,findBorn,lD,ah,iO]
   ·simp only [n_,jz,aj he,bH]
    rfl
  ·obtain ⟨j,U,g2⟩:=J (b:=e.2.2+1) (i:=i+1) I.2.1 I.2.2
   have Ro:=QL (n:=n) (b:=e.2.2+1) I.2.1 I.2.2
   refine ⟨j+1,?_,?_⟩
   ·simp only [n_,bornE,af he,bH,findBorn]
    have:intBeq (((ei e).2.2:Nat):Int) (bornE n c l:Int)=false:=by rw [nP]; exact eB (by show ¬((e.2.2:Nat):Int)=_; omega)
    rw [this,az,U]
    congr 1; omega
   ·simp only [n_,jz,af he,bH,setNth]
    rw [show Nat.beq (j+1) 0=false from rfl,az,sM,g2]
section
variable {P:Program} {h h':H} {S:List ax} {v z:V} {t kt et:TypeId} {k:IntKind} {id c j:Nat} {l:bW} {n:Int}
theorem OF : ∀ {S:List ax} {j:Nat} {A:ax},getA S j=some A→setA S j A=S:=by
 intro S
 induction S with
 | nil=>intro j A h; cases h
 | cons B S I =>
  intro j A h
  cases j with
  | zero=>simp only [getA] at h; injection h with h; subst h; rfl
  | succ j=>simp only [getA] at h; simp only [setA,I h]
theorem Sat.entry (s:Sat h S)(J:getA S j=some (fo id l c))(hu:P.underlying t=some (.map kt et))(hk:P.underlying kt=some (.int k))(hz:zeroT P et=some z):
  ∃w h',mapEntryV P h t (.map id) (.int .i64 n)=some (.bD [w,.int .i64 (bornE n c l:Int)],h')∧Sat h' (setA S j (fo id (n_ n z c l) (clkE n c l))):=by
 have hg:=s.row J
 simp only [mapEntryV,hu,hk,hz,hg,keyBeq,dB,ah,qY]
 have I:=pM (n:=n) l 0
 cases U:idxE n l 0 with
 | none =>
  rw [U] at I
  have I:lookE n l=none:=I.symm
  refine ⟨z,h.put id (some (.map ((n_ n z c l).map ei) (clkE n c l))),?_,s.put J⟩
  rw [(Ku (z:=z) (c:=c) I).1,(Ku (z:=z) (c:=c) I).2,clkE,I,zW]
  rfl
 | some q =>
  obtain ⟨i,u⟩:=q
  rw [U] at I
  have I:lookE n l=some u:=I.symm
  have hb:=(OE (c:=c) U).2
  rw [kj] at hb
  refine ⟨u,h,?_,?_⟩
  ·simp only [hb]
  ·rw [TR I,clkE,I]
   simp only
   rw [OF J]
   exact s
theorem Sat.entryStore (s:Sat h S)(I:getA S j=some (fo id (n_ n z c l) (clkE n c l)))(U:eS c 0 l):
  ∃h',entryStoreV h (.map id) (.int .i64 (bornE n c l:Int)) v=some h'∧Sat h' (setA S j (fo id (jz n v c l) (clkE n c l))):=by
 have hg:=s.row I
 obtain ⟨i,J,g2⟩:=TS (n:=n) (z:=z) (v:=v) (i:=0) (fh c) U
 refine ⟨h.put id (some (.map ((jz n v c l).map ei) (clkE n c l))),?_,s.put I⟩
 rw [dU] at J
 simp only [entryStoreV,hg,J,g2]
end
theorem OpR.mapEntry {C:dw}{E:List (Nat×V)}{h:H}{o:Oper}{t:TypeId}{x y:Operand}{a b v:V}{h₁:H}(I:o.op=.mapEntry t x y)(U:lookO E x=some a)(hy:lookO E y=some b)
 (ho:mapEntryV C.P h t a b=some (v,h₁)): OpR C E h o fun w h'=>w=v∧h'=h₁ :=
 ⟨v,h₁,⟨rfl,rfl⟩,fun env J=>⟨0,by simp only [evOp,I,bN J U,bN J hy,ho]⟩⟩
theorem OpR.entryStore {C:dw}{E:List (Nat×V)}{h:H}{o:Oper}{t:TypeId}{x y z:Operand}{a b v:V}{S':List ax}(I:o.op=.entryStore t x y z)(U:lookO E x=some a)(hy:lookO E y=some b)(hz:lookO E z=some v)
 (ho:∃h₁,entryStoreV h a b v=some h₁∧Sat h₁ S'): OpR C E h o fun _ h₁=>Sat h₁ S':=by
 obtain ⟨h₁,e1,e2⟩:=ho
 exact ⟨cy,h₁,e2,fun env J=>⟨0,by simp only [evOp,I,bN J U,bN J hy,bN J hz,e1,ry]⟩⟩
abbrev HS := List (Int×List Nat)
def bufsA : bW→HS→ax
 | [],[]=>.pu True
 | e::l,x::m=>star [.pu (e.1=x.1),bG e.2.1 x.2,bufsA l m]
 | _,_=>.pu False
def qv (n:Int): bW→HS→ax
 | [],[]=>.pu True
 | e::l,x::m=>if e.1=n then star [.pu (e.1=x.1),bufsA l m] else star [.pu (e.1=x.1),bG e.2.1 x.2,qv n l m]
 | _,_=>.pu False
section
variable {h:H} {n:Int} {u:V} {x:List Nat} {c:Nat}
theorem OG : ∀ {l:bW} {m:HS} {S:List ax},lookE n l=none→Sat h (bufsA l m::S)→lookL n m=none∧Sat h (qv n l m::S):=by
 intro l
 induction l with
 | nil=>intro m S _ s; cases m with
  | nil=>exact ⟨rfl,s⟩
  | cons x m=>exact (eE.1 s).1.elim
 | cons e l U=>intro m S I s; cases m with
  | nil=>exact (eE.1 s).1.elim
  | cons x m =>
   obtain ⟨J,s⟩:=eE.1 (dY.1 s)
   simp only [lookE] at I
   by_cases he:e.1=n
   ·rw [aj he] at I; cases I
   ·rw [af he] at I
    obtain ⟨g1,g2⟩:=U (S:=bG e.2.1 x.2::S) I (s.ae [1])
    refine ⟨?_,?_⟩
    ·simp only [lookL,←J,af he,g1]
    ·simp only [qv,af he]
     exact dY.2 (eE.2 ⟨J,g2.ae [1]⟩)
theorem OH : ∀ {l:bW} {m:HS} {S:List ax},lookE n l=some u→Sat h (bufsA l m::S)→∃x,lookL n m=some x∧Sat h (bG u x::qv n l m::S):=by
 intro l
 induction l with
 | nil=>intro m S I s; cases I
 | cons e l U=>intro m S I s; cases m with
  | nil=>exact (eE.1 s).1.elim
  | cons x m =>
   obtain ⟨J,s⟩:=eE.1 (dY.1 s)
   simp only [lookE] at I
   by_cases he:e.1=n
   ·rw [aj he] at I
    injection I with I
    subst I
    refine ⟨x.2,by simp only [lookL,←J,aj he],?_⟩
    simp only [qv,aj he]
    have s2:Sat h (star [.pu (e.1=x.1),bufsA l m]::bG e.2.1 x.2::S):=dY.2 (eE.2 ⟨J,s.ae [1]⟩)
    exact s2.ae [1]
   ·rw [af he] at I
    obtain ⟨y,g1,g2⟩:=U (S:=bG e.2.1 x.2::S) I (s.ae [1])
    refine ⟨y,by simp only [lookL,←J,af he,g1],?_⟩
    simp only [qv,af he]
    have s2:Sat h (star [.pu (e.1=x.1),bG e.2.1 x.2,qv n l m]::bG u y::S):=dY.2 (eE.2 ⟨J,g2.ae [2,1]⟩)
    exact s2.ae [1]
theorem QM : ∀ {l:bW} {m:HS} {S:List ax},Sat h (bG u x::qv n l m::S)→Sat h (bufsA (jz n u c l) (cK n x m)::S):=by
 intro l
 induction l with
 | nil=>intro m S s; cases m with
  | nil=>exact dY.2 (eE.2 ⟨rfl,s⟩)
  | cons y m=>exact (eE.1 s.drop).1.elim
 | cons e l J=>intro m S s; cases m with
  | nil=>exact (eE.1 s.drop).1.elim
  | cons y m =>
   by_cases he:e.1=n
   ·simp only [qv,aj he] at s
    obtain ⟨I,s⟩:=eE.1 (dY.1 (s.ae [1]))
    simp only [jz,cK,←I,aj he]
    exact dY.2 (eE.2 ⟨he,(s.ae [1,0])⟩)
   ·simp only [qv,af he] at s
    obtain ⟨I,s⟩:=eE.1 (dY.1 (s.ae [1]))
    simp only [jz,cK,←I,af he]
    have s2:=J (S:=bG e.2.1 y.2::S) (s.ae [2,1])
    exact dY.2 (eE.2 ⟨I,s2.ae [1]⟩)
theorem Jm : ∀ {l:bW} {m:HS} {S:List ax},Sat h (bufsA l m::S)→Sat h (en (fun v b=>.ct v b) l m::S):=by
 intro l
 induction l with
 | nil=>intro m S s; cases m with
  | nil=>exact s
  | cons x m=>exact (eE.1 s).1.elim
 | cons e l I=>intro m S s; cases m with
  | nil=>exact (eE.1 s).1.elim
  | cons x m =>
   obtain ⟨J,s⟩:=eE.1 (dY.1 s)
   have s2:=I (S:=AZ e.2.1 x.2::S) (s.fF.ae [1])
   have U:=(s2.ae [1]).two (C:=en (fun v b=>.ct v b) (e::l) (x::m)) (aE.ct _ _) (aE.GN (fun _ _=>aE.ct _ _) _ _) fun a b h1 h2=>⟨⟨J,h1⟩,h2⟩
   exact U
end
end Go.Proofs.YtconhghphklfjaaGreat.Am
