/- AtomCuts: a part of its proof; conditions: its statement's. -/
import Derived.Test.YtconhghphklfjaaGreatC35
namespace Go.Proofs.YtconhghphklfjaaGreat.Am
open Go
structure bW where
 kd:Nat
 tx:Nat
 pv:Nat
 nx:Nat
 data:List Nat
 aR:List cj
def bW.bd (r:bW): List Nat:=cY r.kd r.tx r.pv r.nx r.data r.aR
def bW.len (r:bW): Nat:=8+r.bd.length
structure bW.Ok (r:bW): Prop where
 good:dK r.kd r.aR=true
 rd:xD r.tx r.pv r.nx r.data r.aR
 len:r.bd.length≤1048576
theorem bW.Ok.kd {r:bW}(h:r.Ok): r.kd<256:=by
 have:=h.good
 simp [dK] at this
 omega
def logB : Nat→List bW→List Nat
 | _,[]=>[]
 | n,r::l=>iq n r.bd++logB (n+r.len) l
def jL : Nat→List bW→List Nat
 | _,[]=>[]
 | a,r::l=>a::jL (a+r.len) l
def rF (j:List Nat): Prop:=j.length<8∨j.length-8<leN (j.take 4)
theorem Rb {x y:List Nat}{a b:Nat}(I:x.length=a): ((x++y).take (a+b)).drop a=y.take b:=by
 subst I
 rw [tH,fL (by omega),pz rfl]
 congr 1; omega
section
variable {told:dH} {h:H} {S:List ax} {X:ax} {v:V} {l:List Nat}
theorem Mc (U:W told){pre j:List Nat}{n a:Nat}(hj:rF j)(ha:pre.length=a)(J:l=pre++j)(C7:l.length≤1073741824)(s:Sat h (X::S))(I:cT X (cU v l)):
  Call ⟨Tryz.prog,told⟩ 57 [v,.int .i64 (a:Int),.int .u64 (n:Int)] h fun r h'=>r=.bD [.agg (iC 0 0 0 0 .bz .bz),.int .i64 0,.int .i64 4]∧Sat h' (X::S):=by
 have hlen:l.length=a+j.length:=by rw [J,bA,ha]
 have hvl:=bg (P:=Tryz.prog) (h:=h) aS (s.aG (k:=0) rfl I)
 have m1:(l.take (a+4)).drop a=j.take 4:=by rw [J]; exact Rb ha
 refine Call.of_wp (U.free _ rfl) Tryz.func57 rfl rfl (zg rfl ?_)
 refine aB.cQ s rfl rfl rfl (cC ru) (fun p6 h s => ?_)
 refine zk 7 rfl (zh rfl (ah rfl rfl bu) (by simp) ?_)
 refine zk 3 rfl (zo rfl (a_ rfl rfl rfl (bg aS (s.aG (k:=1) rfl I))) (zh rfl (ah rfl rfl dR) (by simp; omega) ?_))
 refine zk 8 rfl (zo rfl (a_ rfl rfl rfl (bg aS (s.aG (k:=1) rfl I))) (zm rfl (zb rfl (by exact lG (aU (by omega) (by omega))) ?_)))
 by_cases h8:j.length<8
 ·skip
  refine zt rfl (ah rfl rfl bu) (by simp; omega) ?_
  refine zk 4 rfl (zo rfl (c7 rfl (by rw [w5]; rfl)) ?_)
  refine zS rfl (s.g9 (j:=0) rfl gE rfl rfl) (fun h s => ?_)
  refine zk 3 rfl ?_
  refine WP.ret ⟨aa,_,xA rfl (s.fG (k:=0) rfl nt gE) rfl rfl,?_⟩
  exact ⟨rfl,s.drop⟩
 have eO:j.length-8<leN (j.take 4):=by rcases hj with h | h; exact absurd h h8; exact h
 have hw4:leN (j.take 4)<4294967296:=by
  have:=yZ (j.take 4) (fun b hb=>(s.aG (k:=1) rfl I).1 b (by rw [J]; exact List.mem_append.2 (.inr (gz hb))))
  rwa [dI,pq (by omega)] at this
 refine zh rfl (ah rfl rfl bu) (by simp; omega) ?_
 refine zk 8 rfl (zb rfl (by exact bQ (aU (by omega) (by omega))) ?_)
 refine zo rfl (cD (p:=some (.int .i64 (a:Int))) (q:=some (.int .i64 ((a:Int)+4))) (m:=none) (p':=some a) (q':=some (a+4)) (m':=none) rfl rfl rfl rfl (by rw [fK (by omega)]; rfl) (by rw [fK (by omega)]; congr 2 <;> omega) rfl (iI (s.aG (k:=1) rfl I) (a:=a) (b:=a+4) (by omega) (by omega)).1) ?_
 refine zc rfl (pS U s (k:=1) rfl (mF I (a:=a) (b:=a+4) (by omega) (by omega)) (by rw [m1,dI]; omega)) ?_
 rintro r h' ⟨rfl,rfl⟩
 rw [m1]
 refine zk 6 rfl ?_
 by_cases Ep:1048576<leN (j.take 4)
 ·skip
  refine zt rfl (ah rfl rfl dR) (by simp; omega) ?_
  refine zk 14 rfl (zo rfl (c7 rfl (by rw [w5]; rfl)) ?_)
  refine zS rfl (s.g9 (j:=0) rfl gE rfl rfl) (fun h s => ?_)
  refine zk 3 rfl ?_
  refine WP.ret ⟨aa,_,xA rfl (s.fG (k:=0) rfl nt gE) rfl rfl,?_⟩
  exact ⟨rfl,s.drop⟩
 refine zh rfl (ah rfl rfl dR) (by simp; omega) ?_
 refine zk 2 rfl (zo rfl (bV rfl (by exact jF cq bF (aU (by omega) (by omega)))) ?_)
 refine zm rfl (zo rfl (a_ rfl rfl rfl (bg aS (s.aG (k:=1) rfl I))) (zm rfl (zb rfl (by exact lG (aU (by omega) (by omega))) ?_)))
 refine zb rfl (by exact lG (aU (by omega) (by omega))) ?_
 refine zt rfl (ah rfl rfl dR) (by simp; omega) ?_
 refine zk 5 rfl (zo rfl (c7 rfl (by rw [w5]; rfl)) ?_)
 refine zS rfl (s.g9 (j:=0) rfl gE rfl rfl) (fun h s => ?_)
 refine zk 3 rfl ?_
 refine WP.ret ⟨aa,_,xA rfl (s.fG (k:=0) rfl nt gE) rfl rfl,?_⟩
 exact ⟨rfl,s.drop⟩
end
def Dk.qD (δ:Dk)(n:Nat): Int×Dk :=
 if δ.dead=true then (9,δ) else if ¬n≤δ.log.length then (1,δ) else if δ.aF=0 then (9,δ.die) else (0,{ δ.c_ with log:=δ.log.take n,aL:=n })
def Dk.dB (δ:Dk)(n:Nat): Int×Dk:=if n<δ.log.length then δ.qD n else (0,δ)
def Dk.cA (δ:Dk)(n:Nat): Int×Dk :=
 if (δ.dB n).1≠0 then δ.dB n else if (δ.dB n).2.aL<n then (δ.dB n).2.cE else (0,(δ.dB n).2)
def iG (base aC:Nat)(rs:List bW): Lg:={ base:=base,b:=logB base rs,bq:=jL 0 rs,forced:=(logB base rs).length,check:=aC }
theorem sx (n:Nat)(b:List Nat): (iq n b).length=8+b.length:=by rw [mH]
theorem JB {h h':H}{c:Nat}{v:V}(I:c<1073741824)(he:makeSliceV Tryz.prog h 32 (.int .i64 0) (.int .i64 (c:Int))=some (v,h')): v=.sl h.next 0 0 (.exact c):=by
 obtain ⟨i,hi,i1,i2⟩:=we
 simp only [makeSliceV,aS,hi,oI,i1,i2,V.cells,bj,bY,cP,dN] at he
 rw [show (decide ((0:Int)≤0)&&decide ((0:Int)≤(c:Int))&&decide ((c:Int)<1073741824)&&Nat.ble 1 4096&&Nat.beq (0+1) 1&&Nat.ble 1 1)=true by simp; omega,ag] at he
 exact (congrArg Prod.fst (bw he)).symm
theorem Ik {h h':H}{id c n:Nat}{x v:V}{m:List Nat}(J:View h x m)(I:n+m.length≤c)(he:appendV Tryz.prog h #[32,32] (.sl id 0 n (.exact c)) x=some (v,h')): v=.sl id 0 (n+m.length) (.exact c):=by
 obtain ⟨i,hi,i1,i2⟩:=we
 unfold appendV at he
 simp only [aS,hi,oI,i1,i2,V.cells,bj,bY,Cw J] at he
 rw [show (Nat.ble 1 1&&Nat.ble 1 4096&&Nat.beq (0+1) 1)=true from rfl,ag] at he
 cases hm:Nat.beq m.length 0 with
 | true =>
  rw [hm,ag] at he
  rw [beq_iff.1 hm]; exact (congrArg Prod.fst (bw he)).symm
 | false =>
  rw [hm,az,aQ.2 I,ag] at he
  split at he
  ·exact (congrArg Prod.fst (bw he)).symm
  ·cases he
theorem OX {id c n:Nat}{l:List Nat}(hn:n≤l.length): cT (bH (.sl id 0 l.length (.exact c)) l) (bH (.sl id 0 n (.exact c)) (l.take n)):=by
 intro m r ⟨h1,h2⟩
 have U:(l.take n).length=n:=by rw [dI]; omega
 refine ⟨fun b hb=>h1 b (gz hb),.inr (.inl ?_)⟩
 rcases h2 with ⟨e,_⟩ | ⟨J,cs,c',e,hg,hc⟩ | ⟨J,e,_⟩
 ·cases e
 ·injection e with e1 _ _ I
  injection I with I
  subst e1; subst I
  refine ⟨_,ofBytes (l.drop n)++cs,_,by rw [U],?_,?_⟩
  ·rw [←bN,←rN,DE]; exact hg
  ·rw [bA,dJ,nL,U]; omega
 ·injection e with _ _ _ I; cases I
section
variable {told:dH} {h:H} {S:List ax} {X:ax} {p:Nat} {δ:Dk}
theorem JC (hT:W told){x:V}{l:List Nat}(s:Sat h (X::S))(J:cT X (cU x l))(hl:l.length<1073741824):
  Call ⟨Tryz.prog,told⟩ 65 [x] h fun v h'=>∃id,v=.sl id 0 l.length (.exact l.length)∧Sat h' (bH v l::X::S):=by
 refine Call.of_wp (hT.free _ rfl) Tryz.func65 rfl rfl (zK 7 rfl (zo rfl (a_ rfl rfl rfl (bg aS (s.aG (k:=0) rfl J))) ?_))
 obtain ⟨v1,h1,e1,s1⟩:=E6 s hl
 have U:=JB hl e1
 subst U
 refine aB.any rfl rfl rfl (OpR.of (R:=fun v h'=>v=.sl h.next 0 0 (.exact l.length)∧h'=h1) (rO rfl rfl e1) ⟨rfl,rfl⟩) ?_
 rintro v h' ⟨rfl,rfl⟩
 refine zm rfl ?_
 obtain ⟨v2,h2,e2,s2⟩:=CO s1 J (by simp; omega)
 have I:=Ik (s1.aG (k:=1) rfl J) (by omega) e2
 rw [dU] at I
 subst I
 refine aB.any rfl rfl rfl (OpR.of (R:=fun v h'=>v=.sl h.next 0 l.length (.exact l.length)∧h'=h2) (oE rfl rfl e2) ⟨rfl,rfl⟩) ?_
 rintro v h' ⟨rfl,rfl⟩
 exact zk 2 rfl (WP.ret ⟨aa,_,rfl,_,rfl,s2⟩)
theorem Me (I:W told)(s:Sat h (aD p δ::S))(J:δ.dead=false)(U:δ.log.length<1073741824): Call ⟨Tryz.prog,told⟩ 103 [.ptr p 0] h fun v h' =>
  ∃id,v=.bD [.sl id 0 δ.log.length (.exact δ.log.length),.int .i64 0]∧Sat h' (bH (.sl id 0 δ.log.length (.exact δ.log.length)) δ.log::aD p δ::S):=by
 obtain ⟨pg,wt,nw,lg,mk,tn,tl,ops,s⟩:=bt.1 s
 refine Call.of_wp (I.free _ rfl) Tryz.func103 rfl rfl (zK 10 rfl (zf rfl (jo _ _) (zh rfl ((aV rfl (s.ld (k:=0) rfl jW rfl))) (J) (zk 7 rfl (zf rfl (jm _ _) (zl rfl (s.ld (k:=0) rfl bL rfl) (zc rfl (JC I (s.ae [4]) (bE _ _) U) ?_)))))))
 rintro v h ⟨id,rfl,s⟩
 exact zk 3 rfl (WP.ret ⟨aa,_,rfl,id,rfl,(bt.2 ⟨pg,wt,nw,lg,mk,tn,tl,ops,s.ae [2,2,2,2,1,1,1,1,0]⟩).ae [1]⟩)
end
section
variable {told:dH} {h:H} {S:List ax} {X:ax} {v b pv:V} {l j:List Nat} {q p base aC n:Nat} {δ:Dk}
theorem aaP {id m n c:Nat}: slR (.sl id 0 m (.exact c)) 0 n=.sl id 0 n (.exact c):=by
 simp only [slR,vS,iS,kr]
 cases Nat.beq c 0 <;> rfl
theorem Dk.Ok.dB {δ:Dk}{n:Nat}(h:δ.Ok): (δ.dB n).2.Ok:=by
 have J:=h.len
 unfold Dk.dB Dk.qD
 split
 ·split
  ·exact h
  ·split
   ·exact h
   ·split
    ·exact h.die
    ·have I:=h.c_
     exact ⟨I.aF,by show (δ.log.take n).length≤_; rw [dI]; omega,I.room,I.now,I.aq,by show n≤(δ.log.take n).length; rw [dI]; omega,I.many⟩
 ·exact h
theorem Dk.Ok.cA {δ:Dk}{n:Nat}(h:δ.Ok): (δ.cA n).2.Ok:=by
 unfold Dk.cA
 split
 ·exact h.dB
 ·split
  ·exact h.dB.cE
  ·exact h.dB
theorem WU (hT:W told)(s:Sat h (aD p δ::S))(J:δ.Ok): Call ⟨Tryz.prog,told⟩ 104 [.ptr p 0,.int .i64 (n:Int)] h fun v h'=>v=.int .i64 (δ.qD n).1∧Sat h' (aD p (δ.qD n).2::S):=by
 have hl:=J.len
 refine (Qh hT s J.aF (by omega)).mono fun v h' hr => ?_
 unfold Dk.qD
 rcases hr with ⟨I,rfl,s⟩ | ⟨I,h1,rfl,s⟩ | ⟨I,h1,h2,U,rfl,s⟩ | ⟨I,h1,h2,U,rfl,s⟩
 ·rw [aj I]; exact ⟨rfl,s⟩
 ·rw [af (by rw [I]; decide),aj (by omega)]; exact ⟨rfl,s⟩
 ·rw [af (by rw [I]; decide),af (by omega),aj U]; exact ⟨rfl,s⟩
 ·rw [af (by rw [I]; decide),af (by omega),af U]; exact ⟨rfl,s⟩
theorem Rc (U:WR told){r:bW}{a:Nat}{pre rest:List Nat}(I:r.Ok)(ha:pre.length=a)(hl:l=pre++(iq n r.bd++rest))(J:l.length≤1073741824)(s:Sat h (X::S))(hX:cT X (cU v l)):
  Call ⟨Tryz.prog,told⟩ 57 [v,.int .i64 (a:Int),.int .u64 (n:Int)] h fun x h'=>∃dt ch cs,x=.bD [.agg (iC r.kd r.tx r.pv r.nx dt ch),.int .i64 ((a+r.len:Nat):Int),.int .i64 0]∧Sat h' (X::bH dt r.data::.arr 4 ch cs::cV cs r.aR::S):=by
 refine (Ig U I.good I.kd I.rd rfl I.len ha hl J s hX).mono fun x h' hx => ?_
 have e:a+r.len=a+8+(cY r.kd r.tx r.pv r.nx r.data r.aR).length:=by rw [bW.len,bW.bd]; omega
 rw [e]
 exact hx
theorem KI {kd n e:Int}{tx pv nx:Nat}{dt ch:V}(I:dt.beq dt=true)(J:ch.beq ch=true): (V.bD [.agg (iC kd tx pv nx dt ch),.int .i64 n,.int .i64 e]).beq (V.bD [.agg (iC kd tx pv nx dt ch),.int .i64 n,.int .i64 e])=true:=by
 simp only [V.beq,V.beqL,iC,I,J,lF,dD,iy,ag]
noncomputable def woL : Code:=cK [1,1,1,1,1,1,1,0,0,0] ((Tryz.f58.body).getD .skip)
theorem Mf (hT:WR told)(C7:l.length≤16777216)(rS:base+l.length≤1099511627776)(hj:rF j): ∀(rs:List bW) (a:Nat) (pre st:List Nat) (J:V) (h:H) (E:List (Nat×V)) (Q:Ex→List (Nat×V)→H→Prop),
  (∀r∈rs,r.Ok)→l=pre++(logB (base+a) rs++j)→pre.length=a→st.length≤a→Sat h (pt q (.cells 6 (y5 p base b J 0 aC) false)::bH b l::.arr 1 J (gJ st)::S) →
  Has E [(0,pv),(6,.ptr q 0),(7,.int .i64 (a:Int))] →
  (∀E' h' I,Has E' [(0,pv),(6,.ptr q 0),(7,.int .i64 ((a+(logB (base+a) rs).length:Nat):Int))]→Sat h' (pt q (.cells 6 (y5 p base b I 0 aC) false)::bH b l::.arr 1 I (gJ (st++jL a rs))::S)→Q (.exit 1) E' h') →
  WP ⟨Tryz.prog,told⟩ 134 (.loop woL) E h Q:=by
 have hW:=hT.w
 intro rs
 induction rs with
 | nil =>
  intro a pre st J h E Q _ hl ha _ s hE hq
  have hq:∀E' h',Has E' [(0,pv),(6,.ptr q 0),(7,.int .i64 (a:Int))]→Sat h' (pt q (.cells 6 (y5 p base b J 0 aC) false)::bH b l::.arr 1 J (gJ st)::S)→Q (.exit 1) E' h':=fun E' h' h1 h2=>hq E' h' J h1 (by rw [jL,bR]; exact h2)
  have hlen:l.length=a+j.length:=by rw [hl,logB,cW,bA,ha]
  refine WP.loop (WP.has hE (zK 6 rfl (zf rfl (eF _ _) (zl rfl (s.ld (k:=0) rfl bL rfl) (zo rfl (a_ rfl rfl rfl (bg aS (s.aG (k:=1) rfl (bE _ _)))) ?_)))))
  by_cases hz:j.length=0
  ·skip
   refine zh rfl (ah rfl rfl bu) (by simp; omega) ?_
   exact zk 2 rfl (WP.exit (hq _ _ ⟨rfl,rfl,rfl,aa⟩ s))
  ·skip
   refine zt rfl (ah rfl rfl bu) (by simp; omega) ?_
   refine zk 3 rfl (WP.block (zw ?_))
   have s0:=s
   have VZ:=c8 (s.buf (k:=1) rfl).view
   refine WP.drawn [ai,ai,ai,ai,ai,ai,ai,ai,ai,ai,ai,ai,ai,some (1,2),some (1,2),some (1,3),some (1,3),ai,ai,ai,ai] rfl (by kernel_rfl) (by kernel_rfl) ?_
   refine zM rfl (zN rfl (zF rfl (eF _ _) (zL rfl (s.ld (k:=0) rfl bL rfl) (zM rfl (zM rfl (zN rfl (zF rfl (gF _ _) (zL rfl (s.ld (k:=0) rfl gj rfl) (zM rfl (aA.op rfl rfl rfl (by simp only [isEff,cq]) (bV rfl (by exact jF bF cq (eW (by omega) (by omega)))) ?_))))))))))
   refine zO rfl (ah rfl rfl (by exact bQ (eW (by omega) (by omega)))) ?_
   refine aA.any rfl rfl rfl rfl (OpR.call rfl rfl rfl rfl (Mc (n:=base+a) (a:=a) hW hj ha hl (by omega) (s.ae [1]) (bE _ _))) ?_
   rintro x h ⟨rfl,s⟩
   dsimp only [y5,aT,bringA] at s
   have s1:=s
   have U:=KI (kd:=0) (tx:=0) (pv:=0) (nx:=0) (dt:=.bz) (ch:=.bz) (n:=0) (e:=4) rfl rfl
   have HS:=AO (kd:=0) (tx:=0) (pv:=0) (nx:=0) (dt:=.bz) (ch:=.bz) rfl rfl
   refine zM rfl (zO rfl (cy rfl rfl) (zO rfl (cy rfl rfl) (zO rfl (cy rfl rfl) (aA.any rfl rfl rfl rfl (OpR.cQ s (cC ru)) ?_))))
   rintro v h ⟨p8,rfl,s⟩
   dsimp only [V.cells,List.length_cons,List.length_nil,Nat.reduceAdd] at s
   have s2:=s
   refine aA.g8 rfl rfl rfl (OpR.d_ rfl rfl rfl (s.g9 (j:=0) rfl gE rfl rfl)) ?_
   rintro v h ⟨rfl,s⟩
   dsimp only [setA] at s
   refine zA rfl (zA rfl ?_)
   refine aA.nil ⟨⟨aa,aa,aa,aa,aa,aa,aa,aa,aa,aa,aa,aa,aa,fun _ _=>.inr ⟨rfl,⟨_,bk rfl⟩,U⟩,fun _ _=>.inr ⟨rfl,⟨_,cy rfl rfl⟩,HS⟩,fun _ _=>.inr ⟨rfl,⟨_,cy rfl rfl⟩,aW _ rfl⟩,fun _ _=>.inr ⟨rfl,⟨_,cy rfl rfl⟩,aW _ rfl⟩,aa,aa,aa,aa,aa⟩,?_⟩
   exact zK 4 rfl (zt rfl (ah rfl rfl aX) (rfl) (zk 2 rfl (WP.exit (hq _ _ ⟨rfl,rfl,rfl,aa⟩ ((s.del 0).ae [1,0,0])))))
 | cons r rs ih =>
  intro a pre st J h E Q qH hl ha fW s hE hq
  have hr:=qH r bn
  have Fk:(iq (base+a) r.bd).length=r.len:=by rw [sx]; rfl
  have hlen:l.length=a+(r.len+((logB (base+a+r.len) rs).length+j.length)):=by rw [hl,logB]; simp only [bA,ha,Fk]; omega
  have hr8:8≤r.len:=by rw [bW.len]; omega
  refine WP.loop (WP.has hE (zK 6 rfl (zf rfl (eF _ _) (zl rfl (s.ld (k:=0) rfl bL rfl) (zo rfl (a_ rfl rfl rfl (bg aS (s.aG (k:=1) rfl (bE _ _)))) (zt rfl (ah rfl rfl bu) (by simp; omega) ?_))))))
  refine zk 3 rfl (WP.block (zw ?_))
  have s0:=s
  have VZ:=c8 (s.buf (k:=1) rfl).view
  refine WP.drawn [ai,ai,ai,ai,ai,ai,ai,ai,ai,ai,ai,ai,ai,some (1,2),some (1,2),some (1,3),some (1,3),ai,ai,ai,ai] rfl (by kernel_rfl) (by kernel_rfl) ?_
  refine zM rfl (zN rfl (zF rfl (eF _ _) (zL rfl (s.ld (k:=0) rfl bL rfl) (zM rfl (zM rfl (zN rfl (zF rfl (gF _ _) (zL rfl (s.ld (k:=0) rfl gj rfl) (zM rfl (aA.op rfl rfl rfl (by simp only [isEff,cq]) (bV rfl (by exact jF bF cq (eW (by omega) (by omega)))) ?_))))))))))
  refine zO rfl (ah rfl rfl (by exact bQ (eW (by omega) (by omega)))) ?_
  refine aA.any rfl rfl rfl rfl (OpR.call rfl rfl rfl rfl (Rc (r:=r) (n:=base+a) (a:=a) (rest:=logB (base+a+r.len) rs++j) hT hr ha (by rw [hl,logB,bN]) (by omega) (s.ae [1]) (bE _ _))) ?_
  rintro x h ⟨dt,ch,cs,rfl,s⟩
  dsimp only [y5,aT,bringA] at s
  have iY:=(s.buf (k:=1) rfl).view.cells
  have jZ:=s.kJ (j:=2) rfl
  have Bb:=c8 (s.buf (k:=1) rfl).view
  have fW:[V.int .i64 (r.kd:Int),V.int .u64 (r.tx:Int),V.int .u64 (r.pv:Int),V.int .u64 (r.nx:Int),dt,ch].all storable=true:=mS iY.2 jZ.2.1
  have U:=KI (kd:=r.kd) (tx:=r.tx) (pv:=r.pv) (nx:=r.nx) (n:=((a+r.len:Nat):Int)) (e:=0) Bb jZ.2.2
  have HS:=AO (kd:=r.kd) (tx:=r.tx) (pv:=r.pv) (nx:=r.nx) Bb jZ.2.2
  have s1:=s
  refine zM rfl (zO rfl (cy rfl rfl) (zO rfl (cy rfl rfl) (zO rfl (cy rfl rfl) (aA.any rfl rfl rfl rfl (OpR.cQ s (cC ru)) ?_))))
  rintro v h ⟨p8,rfl,s⟩
  dsimp only [V.cells,List.length_cons,List.length_nil,Nat.reduceAdd] at s
  have s2:=s
  refine aA.g8 rfl rfl rfl (OpR.d_ rfl rfl rfl (s.g9 (j:=0) rfl gE rfl fW)) ?_
  rintro v h ⟨rfl,s⟩
  dsimp only [setA] at s
  refine zA rfl (zA rfl ?_)
  refine aA.nil ⟨⟨aa,aa,aa,aa,aa,aa,aa,aa,aa,aa,aa,aa,aa,fun _ _=>.inr ⟨rfl,⟨_,bk rfl⟩,U⟩,fun _ _=>.inr ⟨rfl,⟨_,cy rfl rfl⟩,HS⟩,fun _ _=>.inr ⟨rfl,⟨_,cy rfl rfl⟩,aW _ rfl⟩,fun _ _=>.inr ⟨rfl,⟨_,cy rfl rfl⟩,aW _ rfl⟩,aa,aa,aa,aa,aa⟩,?_⟩
  refine zK 4 rfl (zh rfl (ah rfl rfl aX) (rfl) ?_)
  have s:=((((s.ae [5,5,1]).del 3).del 3).del 3).del 3
  dsimp only [bringA,getA,aT] at s
  refine zk 7 rfl (zf rfl (iW _ _) (zl rfl (s.ld (k:=0) rfl qp rfl) (zm rfl ?_)))
  obtain ⟨i1,lN,jX,sN⟩:=xq
  obtain ⟨iv,h1,e1,s1⟩:=nR (P:=Tryz.prog) (k:=1) (x:=.int .i64 (a:Int)) s eC E5 jG rfl (by decide) (by decide) rfl rfl
  dsimp only [V.cells] at s1
  refine aB.any rfl rfl rfl (OpR.of (R:=fun v h'=>v=iv∧h'=h1) (oJ rfl e1) ⟨rfl,rfl⟩) ?_
  rintro v h' ⟨rfl,rfl⟩
  obtain ⟨I,h2,e2,s2⟩:=jx (s1.ae [2,0]) eC lN E5 jX (by omega) rfl (by decide) (by simp only [ke,bj,bY]; omega)
  dsimp only [aT,bringA] at s2
  refine aB.any rfl rfl rfl (OpR.of (R:=fun v h'=>v=I∧h'=h2) (oE rfl rfl e2) ⟨rfl,rfl⟩) ?_
  rintro v h' ⟨rfl,rfl⟩
  have hv:=s2.kJ (j:=0) rfl
  refine zk 2 rfl (zf rfl (iW _ _) (zS rfl (s2.dQ (k:=2) rfl P8 rfl (by decide) hv.1 hv.2.1) ?_))
  intro h s
  dsimp only [Nat.reduceAdd,List.set,setA] at s
  refine za rfl (zv ?_)
  have s:=(s.ae [2,2,0]).del 3
  refine ih (a+r.len) (pre++iq (base+a) r.bd) (st++[a]) _ _ _ Q (fun x hx=>qH x (bl _ hx)) (by rw [hl,logB]; simp only [bN,gB]) (by rw [bA,ha,Fk]) (by simp; omega) (by rw [show gJ (st++[a])=gJ st++[.int .i64 (a:Int)] by simp [gJ]]; exact s) ⟨rfl,rfl,rfl,aa⟩ (fun E' h' I gu s' => ?_)
  refine hq E' h' I ?_ ?_
  ·rw [logB,bA,Fk,←gB,gB base]
   exact gu
  ·rw [jL,List.append_cons]
   exact s'
noncomputable def woE : Code:=cK [1,1,1,1,1,1,1,1,1] ((Tryz.f58.body).getD .skip)
theorem Dm (hT:W told){st:List Nat}{sv:V}(s:Sat h (pt q (.cells 6 (y5 p base b sv 0 aC) false)::bH b l::.arr 1 sv (gJ st)::aD p δ::S))(hf:δ.aF<4294967296){E:List (Nat×V)}{Q:Ex→List (Nat×V)→H→Prop}(hE:Has E [(0,.ptr p 0),(6,.ptr q 0)])
 {y:Int×Dk}(J:y=if δ.aL<l.length then δ.cE else (0,δ))
 (h1:∀E' h',y.1≠0→look E' 2=some .cF→look E' 3=some (.int .i64 y.1)→Sat h' (aD p y.2::S)→Q .ret E' h')
 (h2:∀E' h',y.1=0→look E' 2=some (.ptr q 0)→look E' 3=some (.int .i64 0)→Sat h' (bf q p { base:=base,b:=l,bq:=st,forced:=l.length,check:=aC }::aD p y.2::S)→Q .ret E' h'):
  WP ⟨Tryz.prog,told⟩ 134 woE E h Q:=by
 refine WP.has hE (zK 2 rfl ?_)
 have U:=s
 have I:=c8 (s.buf (k:=1) rfl).view
 refine WP.drawn [none,none,some (0,2),some (0,2),some (0,2),some (0,2),some (0,2),none] rfl (by kernel_rfl) (by kernel_rfl) ?_
 refine zM rfl (aA.any rfl rfl rfl rfl (OpR.call rfl rfl rfl rfl (Be hT (s.ae [3]))) ?_)
 rintro v h' ⟨rfl,rfl⟩
 refine zM rfl (zN rfl (zF rfl (eF _ _) (zL rfl (s.ld (k:=0) rfl bL rfl) (zO rfl (a_ rfl rfl rfl (bg aS (s.aG (k:=1) rfl (bE _ _)))) ?_))))
 by_cases hc:δ.aL<l.length
 ·skip
  rw [aj hc] at J
  refine aA.qn rfl rfl rfl rfl (ah rfl rfl bu) (by rw [show δ.xg=δ.aL from rfl]; simp; omega) ?_
  refine aA.nil ⟨⟨aa,aa,fun _ _=>.inr ⟨rfl,⟨_,bk rfl⟩,aW _ rfl⟩,fun _ _=>.inr ⟨rfl,⟨_,j5 rfl⟩,aW _ rfl⟩,fun _ _=>.inr ⟨rfl,⟨_,jE rfl (eF _ _)⟩,aW _ rfl⟩,dO (.inr ⟨rfl,⟨_,aV rfl (U.ld (k:=0) rfl bL rfl)⟩,I⟩) (.inr ⟨rfl,⟨_,aV rfl (s.ld (k:=0) rfl bL rfl)⟩,I⟩),dO (.inr ⟨rfl,⟨_,a_ rfl rfl rfl (bg aS (U.aG (k:=1) rfl (bE _ _)))⟩,aW _ rfl⟩) (.inr ⟨rfl,⟨_,a_ rfl rfl rfl (bg aS (s.aG (k:=1) rfl (bE _ _)))⟩,aW _ rfl⟩),aa,aa⟩,?_⟩
  refine zK 4 rfl (zc rfl (TG hT (s.ae [3]) hf) ?_)
  rintro v h ⟨rfl,s⟩
  rw [←J] at s
  rw [←J]
  by_cases h0:y.1=0
  ·skip
   rw [h0]
   refine zk 5 rfl (zh rfl (ah rfl rfl aX) (rfl) (zk 8 rfl (zf rfl (eF _ _) (zl rfl (s.ld (k:=1) rfl bL rfl) (zo rfl (a_ rfl rfl rfl (bg aS (s.aG (k:=2) rfl (bE _ _)))) (zn rfl (zf rfl (pL _ _) ?_)))))))
   refine zS rfl (by exact s.dQ (k:=1) rfl jG rfl (by decide) rfl rfl) (fun h s => ?_)
   exact zk 7 rfl (WP.ret (h2 _ _ h0 rfl rfl (dc.2 ⟨_,_,s.ae [1,1,1,0]⟩)))
  ·skip
   refine zk 5 rfl (zt rfl (ah rfl rfl aX) (by simpa using h0) ?_)
   exact zk 8 rfl (WP.ret (h1 _ _ h0 rfl rfl (((s.del 3).del 2).del 1)))
 ·skip
  rw [af hc] at J
  subst J
  refine aA.nr rfl rfl rfl rfl (ah rfl rfl bu) (by rw [show δ.xg=δ.aL from rfl]; simp; omega) ?_
  refine aA.nil ⟨⟨aa,aa,fun _ _=>.inr ⟨rfl,⟨_,bk rfl⟩,aW _ rfl⟩,fun _ _=>.inr ⟨rfl,⟨_,j5 rfl⟩,aW _ rfl⟩,fun _ _=>.inr ⟨rfl,⟨_,jE rfl (eF _ _)⟩,aW _ rfl⟩,dO (.inr ⟨rfl,⟨_,aV rfl (U.ld (k:=0) rfl bL rfl)⟩,I⟩) (.inr ⟨rfl,⟨_,aV rfl (s.ld (k:=0) rfl bL rfl)⟩,I⟩),dO (.inr ⟨rfl,⟨_,a_ rfl rfl rfl (bg aS (U.aG (k:=1) rfl (bE _ _)))⟩,aW _ rfl⟩) (.inr ⟨rfl,⟨_,a_ rfl rfl rfl (bg aS (s.aG (k:=1) rfl (bE _ _)))⟩,aW _ rfl⟩),aa,aa⟩,?_⟩
  refine zK 7 rfl (zf rfl (eF _ _) (zl rfl (s.ld (k:=0) rfl bL rfl) (zo rfl (a_ rfl rfl rfl (bg aS (s.aG (k:=1) rfl (bE _ _)))) (zn rfl (zf rfl (pL _ _) ?_)))))
  refine zS rfl (by exact s.dQ (k:=0) rfl jG rfl (by decide) rfl rfl) (fun h s => ?_)
  exact zk 7 rfl (WP.ret (h2 _ _ rfl rfl rfl (dc.2 ⟨_,_,s⟩)))
noncomputable def woR : Code:=cK [1,1,1,1,1,1] ((Tryz.f58.body).getD .skip)
theorem FB (hT:WR told){rs:List bW}{yb:Nat}(hb:b=.sl yb 0 δ.log.length (.exact δ.log.length))(s:Sat h (pt q (.cells 6 (y5 p base b .bz 0 aC) false)::bH b δ.log::aD p δ::S))(U:δ.Ok)(rS:base+δ.log.length≤1099511627776)
 (I:δ.log=logB base rs++j)(qH:∀r∈rs,r.Ok)(hj:rF j){E:List (Nat×V)}{Q:Ex→List (Nat×V)→H→Prop}(hE:Has E [(0,.ptr p 0),(6,.ptr q 0)])
 (h1:∀E' h',(δ.cA (logB base rs).length).1≠0→look E' 2=some .cF→look E' 3=some (.int .i64 (δ.cA (logB base rs).length).1)→Sat h' (aD p (δ.cA (logB base rs).length).2::S)→Q .ret E' h')
 (h2:∀E' h',(δ.cA (logB base rs).length).1=0→look E' 2=some (.ptr q 0)→look E' 3=some (.int .i64 0)→Sat h' (bf q p (iG base aC rs)::aD p (δ.cA (logB base rs).length).2::S)→Q .ret E' h'):
  WP ⟨Tryz.prog,told⟩ 134 woR E h Q:=by
 have hW:=hT.w
 have C7:=U.len
 have hlen:δ.log.length=(logB base rs).length+j.length:=by rw [I,bA]
 subst hb
 have Ow:δ.log.take (logB base rs).length=logB base rs:=by rw [I,ko rfl]
 generalize ho:δ.cA (logB base rs).length=y at h1 h2
 unfold Dk.cA at ho
 refine WP.has hE (zK 5 rfl (WP.block ?_))
 refine Mf (pv:=.ptr p 0) hT C7 rS hj rs 0 [] [] .bz h _ _ qH (by rw [cW]; exact I) rfl (by simp) ((s.ae [0,0]).qq.ae [1,1,0]) ⟨rfl,rfl,rfl,aa⟩ (fun E h sv hE s => ?_)
 rw [iS,dU] at hE
 rw [cW] at s
 refine WP.has hE (zK 6 rfl (zf rfl (eF _ _) (zl rfl (s.ld (k:=0) rfl bL rfl) (zo rfl (a_ rfl rfl rfl (pQ rfl aS)) ?_))))
 have J:(δ.dB (logB base rs).length)=if (logB base rs).length<δ.log.length then δ.qD (logB base rs).length else (0,δ):=rfl
 by_cases bS:(logB base rs).length<δ.log.length
 ·skip
  rw [aj bS] at J
  refine zt rfl (ah rfl rfl bu) (by simp; omega) ?_
  refine zk 7 rfl (zc rfl (WU (n:=(logB base rs).length) hW (s.ae [3]) U) ?_)
  rintro v h ⟨rfl,s⟩
  rw [←J] at s
  rw [←J]
  by_cases h0:(δ.dB (logB base rs).length).1=0
  ·skip
   rw [af (not_not_intro h0)] at ho
   rw [h0]
   refine zk 5 rfl (zh rfl (ah rfl rfl aX) (rfl) ?_)
   have lK:=(ik (s.buf (k:=2) rfl).view (b:=(logB base rs).length) (by omega)).1
   rw [aaP] at lK
   refine zk 7 rfl (zf rfl (eF _ _) (zl rfl (s.ld (k:=1) rfl bL rfl) (zm rfl (zo rfl (cD (p:=none) (q:=some (.int .i64 ((logB base rs).length:Int))) (m:=none) (p':=none) (q':=some (logB base rs).length) (m':=none) rfl rfl rfl rfl rfl (by simp [gW,bndV]) rfl lK) ?_))))
   refine zn rfl (zf rfl (eF _ _) (zS rfl (s.dQ (k:=1) rfl jl rfl (by decide) rfl rfl) ?_))
   intro h s
   have s:=(s.ae [2]).fP (OX (n:=(logB base rs).length) (by omega))
   rw [Ow] at s
   exact zv (Dm (l:=logB base rs) hW (s.ae [2,0,1,0]) U.dB.aF ⟨rfl,rfl,aa⟩ ho.symm h1 h2)
  ·skip
   rw [aj h0] at ho
   rw [ho] at h0 s
   rw [ho]
   refine zk 5 rfl (zt rfl (ah rfl rfl aX) (by simpa using h0) ?_)
   exact zk 8 rfl (WP.ret (h1 _ _ h0 rfl rfl (((s.del 3).del 2).del 1)))
 ·skip
  rw [af bS] at J
  rw [J,af (by simp)] at ho
  refine zh rfl (ah rfl rfl bu) (by simp; omega) ?_
  refine zk 3 rfl ?_
  have e:δ.log=logB base rs:=by
   rw [fL (by omega)] at Ow
   exact Ow
  exact Dm (l:=logB base rs) hW (by rw [e] at s; exact s) U.aF ⟨rfl,rfl,aa⟩ ho.symm h1 h2
def OY (mark:List Nat)(base aC:Nat): Prop:=(mark=[]∧base=1∧aC=0)∨mark=le 8 base++le 8 aC
theorem Re (hT:WR told){rs:List bW}(s:Sat h (aD p δ::S))(U:δ.Ok)(hd:δ.dead=false)(hm:OY δ.mark base aC)(I:base+δ.log.length≤1099511627776)(Mg:aC<18446744073709551616)
 (J:δ.log=logB base rs++j)(qH:∀r∈rs,r.Ok)(hj:rF j):
  Call ⟨Tryz.prog,told⟩ 58 [.ptr p 0] h fun v h'=>((δ.cA (logB base rs).length).1≠0∧v=.bD [.cF,.int .i64 (δ.cA (logB base rs).length).1]∧Sat h' (aD p (δ.cA (logB base rs).length).2::S)) ∨
   ((δ.cA (logB base rs).length).1=0∧∃q,v=.bD [.ptr q 0,.int .i64 0]∧Sat h' (bf q p (iG base aC rs)::aD p (δ.cA (logB base rs).length).2::S)):=by
 have hW:=hT.w
 have C7:=U.len
 have Y_:δ.mark.length≤64:=by rcases hm with ⟨hm,_⟩ | hm <;> rw [hm] <;> simp [cX]
 refine Call.of_wp (hW.free _ rfl) Tryz.func58 rfl rfl (zK 8 rfl (zc rfl (CW hW s Y_) ?_))
 rintro v h (⟨Ch,_,_⟩ | ⟨_,b0,rfl,s⟩)
 ·rw [hd] at Ch; cases Ch
 refine zk 10 rfl (zh rfl (ah rfl rfl aX) (rfl) (zk 6 rfl (zo rfl (c7 rfl (by rw [R4]; rfl)) ?_)))
 refine aB.cQ s rfl rfl rfl (gC rfl rfl) (fun Za h s => ?_)
 dsimp only [V.cells,List.take,List.length_cons,List.length_nil,Nat.reduceAdd,List.drop,List.cons_append,List.nil_append] at s
 refine zk 7 rfl ?_
 have s:=s.ae [2,0,0]
 dsimp only [bringA,getA,aT] at s
 refine zc rfl (Me hW s hd (by omega)) ?_
 rintro v h ⟨yb,rfl,s⟩
 refine zk 4 rfl (zf rfl (eF _ _) (zS rfl (s.dQ (k:=2) rfl jl rfl (by decide) rfl rfl) ?_))
 intro h s
 dsimp only [Nat.reduceAdd,List.set,setA] at s
 refine zk 5 rfl (zh rfl (ah rfl rfl aX) (rfl) (zk 7 rfl (zo rfl (a_ rfl rfl rfl (bg aS (s.aG (k:=3) rfl (bE _ _)))) (zv (WP.block (zg rfl ?_))))))
 rcases hm with ⟨hm,rfl,rfl⟩ | hm
 ·skip
  refine zt rfl (ah rfl rfl cI) (by rw [hm]; rfl) ?_
  refine za rfl (zv (zi rfl (WP.skip ?_)))
  exact FB hT rfl ((s.ae [2,0,0]).del 3) U I J qH hj ⟨rfl,rfl,aa⟩ (fun E' h' h0 e1 e2 s'=>⟨aa,_,vC e1 e2,.inl ⟨h0,rfl,s'⟩⟩) (fun E' h' h0 e1 e2 s'=>⟨aa,_,vC e1 e2,.inr ⟨h0,_,rfl,s'⟩⟩)
 ·skip
  have ZC:δ.mark.length=16:=by rw [hm]; simp [cX]
  refine zh rfl (ah rfl rfl cI) (by rw [ZC]; rfl) ?_
  refine zk 5 rfl (zt rfl (ah rfl rfl cI) (by rw [ZC]; rfl) ?_)
  refine zk 3 rfl ?_
  have w1:δ.mark.take 8=le 8 base:=by rw [hm,ko (by rw [cX])]
  have w2:δ.mark.drop 8=le 8 aC:=by rw [hm,pz (by rw [cX])]
  have hbv:=c8 (s.buf (k:=3) rfl).view
  have s0:=s
  refine WP.drawn [some (0,3),some (0,4),ai,ai,ai,some (0,2),some (0,2),ai,ai,ai,ai,ai,ai,ai] rfl (by kernel_rfl) (by kernel_rfl) ?_
  refine zM rfl (zM rfl (zM rfl (zO rfl (cD (p:=none) (q:=some (.int .i64 8)) (m:=none) (p':=none) (q':=some 8) (m':=none) rfl rfl rfl rfl rfl rfl rfl (ik (s.buf (k:=3) rfl).view (b:=8) (by omega)).1) ?_)))
  refine aA.any rfl rfl rfl rfl (OpR.call rfl rfl rfl rfl (pS hW s (k:=3) rfl (w9 (bE _ _) (b:=8) (by omega)) (by rw [w1,cX]; decide))) ?_
  rintro v h' ⟨rfl,rfl⟩
  rw [w1,sr,gT (by omega)]
  refine zM rfl (zO rfl (cD (p:=some (.int .i64 8)) (q:=none) (m:=none) (p':=some 8) (q':=none) (m':=none) rfl rfl rfl rfl rfl rfl rfl (er (s.buf (k:=3) rfl).view (a:=8) (by omega)).1) ?_)
  refine aA.any rfl rfl rfl rfl (OpR.call rfl rfl rfl rfl (pS hW s (k:=3) rfl (nT (bE _ _) (a:=8) (by omega)) (by rw [w2,cX]; decide))) ?_
  rintro v h' ⟨rfl,rfl⟩
  rw [w2,sr,gT (by omega)]
  refine zN rfl (zF rfl (gF _ _) (aA.g8 rfl rfl rfl (OpR.d_ rfl rfl rfl (s.dQ (k:=2) rfl rq rfl (by decide) rfl rfl)) ?_))
  rintro v h ⟨rfl,s⟩
  have s2:=s
  refine zN rfl (zF rfl (pM _ _) (aA.g8 rfl rfl rfl (OpR.d_ rfl rfl rfl (s.dQ (k:=2) rfl rq rfl (by decide) rfl rfl)) ?_))
  rintro v h ⟨rfl,s⟩
  have Bh:=c8 (er (s0.buf (k:=3) rfl).view (a:=8) (by omega)).2.1
  refine aA.nil ⟨⟨fun _ _=>.inr ⟨rfl,⟨_,bk rfl⟩,aW _ rfl⟩,fun _ _=>.inr ⟨rfl,⟨_,bk rfl⟩,aW _ rfl⟩,aa,aa,aa,fun _ _=>.inr ⟨rfl,⟨_,bk rfl⟩,hbv⟩,dO (.inr ⟨rfl,⟨_,cD (p:=some (.int .i64 8)) (q:=none) (m:=none) (p':=some 8) (q':=none) (m':=none) rfl rfl rfl rfl rfl rfl rfl (er (s0.buf (k:=3) rfl).view (a:=8) (by omega)).1⟩,Bh⟩) (.inr ⟨rfl,⟨_,cD (p:=some (.int .i64 8)) (q:=none) (m:=none) (p':=some 8) (q':=none) (m':=none) rfl rfl rfl rfl rfl rfl rfl (er (s0.buf (k:=3) rfl).view (a:=8) (by omega)).1⟩,Bh⟩),aa,aa,aa,aa,aa,aa,aa,aa⟩,?_⟩
  exact FB hT rfl ((s.ae [2,0,0]).del 3) U I J qH hj ⟨rfl,rfl,aa⟩ (fun E' h' h0 e1 e2 s'=>⟨aa,_,vC e1 e2,.inl ⟨h0,rfl,s'⟩⟩) (fun E' h' h0 e1 e2 s'=>⟨aa,_,vC e1 e2,.inr ⟨h0,_,rfl,s'⟩⟩)
end
def bornE (n:Int)(c:Nat): bZ→Nat
 | []=>c
 | e::l=>if e.1=n then e.2.2 else bornE n c l
def og (n:Int)(z:V)(c:Nat): bZ→bZ
 | []=>[(n,z,c)]
 | e::l=>if e.1=n then e::l else e::og n z c l
theorem Rf {n:Int}{c:Nat}: ∀ {l:bZ} {b:Nat},b≤c→eX c b l→b≤bornE n c l:=by
 intro l
 induction l with
 | nil=>intro b h _; exact h
 | cons e l J =>
  intro b h I
  simp only [bornE]
  by_cases he:e.1=n
  ·rw [aj he]; exact I.1
  ·rw [af he]
   have:=J (b:=e.2.2+1) I.2.1 I.2.2
   have:=I.1
   omega
theorem KJ {n:Int}{z:V}{c:Nat}: ∀ {l:bZ},lookE n l=none→og n z c l=l++[(n,z,c)]∧bornE n c l=c:=by
 intro l
 induction l with
 | nil=>intro _; exact ⟨rfl,rfl⟩
 | cons e l I =>
  intro h
  simp only [lookE] at h
  by_cases he:e.1=n
  ·rw [aj he] at h; cases h
  ·rw [af he] at h
   have g:=I h
   exact ⟨by simp only [og,af he,g.1,fq],by simp only [bornE,af he,g.2]⟩
theorem Un {n:Int}{z u:V}{c:Nat}: ∀ {l:bZ},lookE n l=some u→og n z c l=l:=by
 intro l
 induction l with
 | nil=>intro h; cases h
 | cons e l I =>
  intro h
  simp only [lookE] at h
  by_cases he:e.1=n
  ·simp only [og,aj he]
  ·rw [af he] at h
   simp only [og,af he,I h]
theorem OZ {n:Int}{c:Nat}: ∀ {l:bZ} {i j:Nat} {u:V},idxE n l i=some (j,u)→i≤j∧nth (l.map ep) (j-i)=some (.int .i64 n,u,bornE n c l):=by
 intro l
 induction l with
 | nil=>intro i j u h; cases h
 | cons e l I =>
  intro i j u h
  simp only [idxE] at h
  by_cases he:e.1=n
  ·rw [aj he] at h
   injection h with h; injection h with J U
   subst J; subst U
   refine ⟨aK _,?_⟩
   simp only [bornE,aj he,Ao,bJ,nth,ep,he]
   rfl
  ·rw [af he] at h
   obtain ⟨g1,g2⟩:=I h
   refine ⟨by omega,?_⟩
   simp only [bornE,af he,bJ]
   rw [show j-i=(j-(i+1))+1 by omega]
   simpa [fR] using g2
theorem Uo {n:Int}{z v:V}{c:Nat}: ∀ {l:bZ} {b i:Nat},b≤c→eX c b l→∃j,findBorn ((og n z c l).map ep) (bornE n c l:Int) i=some (i+j)∧setNth ((og n z c l).map ep) j (fun e=>(e.1,v,e.2.2))=(jH n v c l).map ep:=by
 intro l
 induction l with
 | nil =>
  intro b i h _
  refine ⟨0,?_,rfl⟩
  simp only [og,bornE,bJ,List.map_nil,ep,findBorn,lF,ag,iS]
 | cons e l J =>
  intro b i h I
  by_cases he:e.1=n
  ·refine ⟨0,?_,?_⟩
   ·simp only [og,bornE,aj he,bJ,ep,findBorn,lF,ag,iS]
   ·simp only [og,jH,aj he,bJ]
    rfl
  ·obtain ⟨j,U,g2⟩:=J (b:=e.2.2+1) (i:=i+1) I.2.1 I.2.2
   have RQ:=Rf (n:=n) (b:=e.2.2+1) I.2.1 I.2.2
   refine ⟨j+1,?_,?_⟩
   ·simp only [og,bornE,af he,bJ,findBorn]
    have:intBeq (((ep e).2.2:Nat):Int) (bornE n c l:Int)=false:=by rw [nU]; exact eE (by show ¬((e.2.2:Nat):Int)=_; omega)
    rw [this,az,U]
    congr 1; omega
   ·simp only [og,jH,af he,bJ,setNth]
    rw [show Nat.beq (j+1) 0=false from rfl,az,tA,g2]
section
variable {P:Program} {h h':H} {S:List ax} {v z:V} {t kt et:TypeId} {k:IntKind} {id c j:Nat} {l:bZ} {n:Int}
theorem O0 : ∀ {S:List ax} {j:Nat} {A:ax},getA S j=some A→setA S j A=S:=by
 intro S
 induction S with
 | nil=>intro j A h; cases h
 | cons B S I =>
  intro j A h
  cases j with
  | zero=>simp only [getA] at h; injection h with h; subst h; rfl
  | succ j=>simp only [getA] at h; simp only [setA,I h]
theorem Sat.entry (s:Sat h S)(J:getA S j=some (fy id l c))(hu:P.underlying t=some (.map kt et))(hk:P.underlying kt=some (.int k))(hz:zeroT P et=some z):
  ∃w h',mapEntryV P h t (.map id) (.int .i64 n)=some (.bD [w,.int .i64 (bornE n c l:Int)],h')∧Sat h' (setA S j (fy id (og n z c l) (clkE n c l))):=by
 have hg:=s.row J
 simp only [mapEntryV,hu,hk,hz,hg,keyBeq,dD,ag,rB]
 have I:=pR (n:=n) l 0
 cases U:idxE n l 0 with
 | none =>
  rw [U] at I
  have I:lookE n l=none:=I.symm
  refine ⟨z,h.put id (some (.map ((og n z c l).map ep) (clkE n c l))),?_,s.put J⟩
  rw [(KJ (z:=z) (c:=c) I).1,(KJ (z:=z) (c:=c) I).2,clkE,I,Ai]
  rfl
 | some q =>
  obtain ⟨i,u⟩:=q
  rw [U] at I
  have I:lookE n l=some u:=I.symm
  have hb:=(OZ (c:=c) U).2
  rw [kr] at hb
  refine ⟨u,h,?_,?_⟩
  ·simp only [hb]
  ·rw [Un I,clkE,I]
   simp only
   rw [O0 J]
   exact s
theorem Sat.entryStore (s:Sat h S)(I:getA S j=some (fy id (og n z c l) (clkE n c l)))(U:eX c 0 l):
  ∃h',entryStoreV h (.map id) (.int .i64 (bornE n c l:Int)) v=some h'∧Sat h' (setA S j (fy id (jH n v c l) (clkE n c l))):=by
 have hg:=s.row I
 obtain ⟨i,J,g2⟩:=Uo (n:=n) (z:=z) (v:=v) (i:=0) (eU c) U
 refine ⟨h.put id (some (.map ((jH n v c l).map ep) (clkE n c l))),?_,s.put I⟩
 rw [dU] at J
 simp only [entryStoreV,hg,J,g2]
end
theorem OpR.mapEntry {C:dx}{E:List (Nat×V)}{h:H}{o:Oper}{t:TypeId}{x y:Operand}{a b v:V}{h₁:H}(I:o.op=.mapEntry t x y)(U:lookO E x=some a)(hy:lookO E y=some b)
 (ho:mapEntryV C.P h t a b=some (v,h₁)): OpR C E h o fun w h'=>w=v∧h'=h₁ :=
 ⟨v,h₁,⟨rfl,rfl⟩,fun env J=>⟨0,by simp only [evOp,I,bO J U,bO J hy,ho]⟩⟩
theorem OpR.entryStore {C:dx}{E:List (Nat×V)}{h:H}{o:Oper}{t:TypeId}{x y z:Operand}{a b v:V}{S':List ax}(I:o.op=.entryStore t x y z)(U:lookO E x=some a)(hy:lookO E y=some b)(hz:lookO E z=some v)
 (ho:∃h₁,entryStoreV h a b v=some h₁∧Sat h₁ S'): OpR C E h o fun _ h₁=>Sat h₁ S':=by
 obtain ⟨h₁,e1,e2⟩:=ho
 exact ⟨cx,h₁,e2,fun env J=>⟨0,by simp only [evOp,I,bO J U,bO J hy,bO J hz,e1,rJ]⟩⟩
abbrev Il := List (Int×List Nat)
def bufsA : bZ→Il→ax
 | [],[]=>.pu True
 | e::l,x::m=>star [.pu (e.1=x.1),bH e.2.1 x.2,bufsA l m]
 | _,_=>.pu False
def qE (n:Int): bZ→Il→ax
 | [],[]=>.pu True
 | e::l,x::m=>if e.1=n then star [.pu (e.1=x.1),bufsA l m] else star [.pu (e.1=x.1),bH e.2.1 x.2,qE n l m]
 | _,_=>.pu False
section
variable {h:H} {n:Int} {u:V} {x:List Nat} {c:Nat}
theorem O1 : ∀ {l:bZ} {m:Il} {S:List ax},lookE n l=none→Sat h (bufsA l m::S)→lookL n m=none∧Sat h (qE n l m::S):=by
 intro l
 induction l with
 | nil=>intro m S _ s; cases m with
  | nil=>exact ⟨rfl,s⟩
  | cons x m=>exact (eL.1 s).1.elim
 | cons e l U=>intro m S I s; cases m with
  | nil=>exact (eL.1 s).1.elim
  | cons x m =>
   obtain ⟨J,s⟩:=eL.1 (dZ.1 s)
   simp only [lookE] at I
   by_cases he:e.1=n
   ·rw [aj he] at I; cases I
   ·rw [af he] at I
    obtain ⟨g1,g2⟩:=U (S:=bH e.2.1 x.2::S) I (s.ae [1])
    refine ⟨?_,?_⟩
    ·simp only [lookL,←J,af he,g1]
    ·simp only [qE,af he]
     exact dZ.2 (eL.2 ⟨J,g2.ae [1]⟩)
theorem O2 : ∀ {l:bZ} {m:Il} {S:List ax},lookE n l=some u→Sat h (bufsA l m::S)→∃x,lookL n m=some x∧Sat h (bH u x::qE n l m::S):=by
 intro l
 induction l with
 | nil=>intro m S I s; cases I
 | cons e l U=>intro m S I s; cases m with
  | nil=>exact (eL.1 s).1.elim
  | cons x m =>
   obtain ⟨J,s⟩:=eL.1 (dZ.1 s)
   simp only [lookE] at I
   by_cases he:e.1=n
   ·rw [aj he] at I
    injection I with I
    subst I
    refine ⟨x.2,by simp only [lookL,←J,aj he],?_⟩
    simp only [qE,aj he]
    have s2:Sat h (star [.pu (e.1=x.1),bufsA l m]::bH e.2.1 x.2::S):=dZ.2 (eL.2 ⟨J,s.ae [1]⟩)
    exact s2.ae [1]
   ·rw [af he] at I
    obtain ⟨y,g1,g2⟩:=U (S:=bH e.2.1 x.2::S) I (s.ae [1])
    refine ⟨y,by simp only [lookL,←J,af he,g1],?_⟩
    simp only [qE,af he]
    have s2:Sat h (star [.pu (e.1=x.1),bH e.2.1 x.2,qE n l m]::bH u y::S):=dZ.2 (eL.2 ⟨J,g2.ae [2,1]⟩)
    exact s2.ae [1]
theorem Rg : ∀ {l:bZ} {m:Il} {S:List ax},Sat h (bH u x::qE n l m::S)→Sat h (bufsA (jH n u c l) (cM n x m)::S):=by
 intro l
 induction l with
 | nil=>intro m S s; cases m with
  | nil=>exact dZ.2 (eL.2 ⟨rfl,s⟩)
  | cons y m=>exact (eL.1 s.drop).1.elim
 | cons e l J=>intro m S s; cases m with
  | nil=>exact (eL.1 s.drop).1.elim
  | cons y m =>
   by_cases he:e.1=n
   ·simp only [qE,aj he] at s
    obtain ⟨I,s⟩:=eL.1 (dZ.1 (s.ae [1]))
    simp only [jH,cM,←I,aj he]
    exact dZ.2 (eL.2 ⟨he,(s.ae [1,0])⟩)
   ·simp only [qE,af he] at s
    obtain ⟨I,s⟩:=eL.1 (dZ.1 (s.ae [1]))
    simp only [jH,cM,←I,af he]
    have s2:=J (S:=bH e.2.1 y.2::S) (s.ae [2,1])
    exact dZ.2 (eL.2 ⟨I,s2.ae [1]⟩)
theorem JD : ∀ {l:bZ} {m:Il} {S:List ax},Sat h (bufsA l m::S)→Sat h (eu (fun v b=>.cm v b) l m::S):=by
 intro l
 induction l with
 | nil=>intro m S s; cases m with
  | nil=>exact s
  | cons x m=>exact (eL.1 s).1.elim
 | cons e l I=>intro m S s; cases m with
  | nil=>exact (eL.1 s).1.elim
  | cons x m =>
   obtain ⟨J,s⟩:=eL.1 (dZ.1 s)
   have s2:=I (S:=Ba e.2.1 x.2::S) (s.fJ.ae [1])
   have U:=(s2.ae [1]).two (C:=eu (fun v b=>.cm v b) (e::l) (x::m)) (aE.cm _ _) (aE.G6 (fun _ _=>aE.cm _ _) _ _) fun a b h1 h2=>⟨⟨J,h1⟩,h2⟩
   exact U
end
end Go.Proofs.YtconhghphklfjaaGreat.Am
