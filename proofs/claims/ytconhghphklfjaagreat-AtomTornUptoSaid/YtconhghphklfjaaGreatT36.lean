/- AtomTorn: a part of its proof; conditions: its statement's. -/
import Derived.Test.YtconhghphklfjaaGreatT35
namespace Go.Proofs.YtconhghphklfjaaGreat.Am
open Go
structure bR where
 kd:Nat
 tx:Nat
 pv:Nat
 nx:Nat
 data:List Nat
 aR:List cn
def bR.bd (r:bR): List Nat:=dB r.kd r.tx r.pv r.nx r.data r.aR
def bR.len (r:bR): Nat:=8+r.bd.length
structure bR.Ok (r:bR): Prop where
 good:dU r.kd r.aR=true
 rd:xS r.tx r.pv r.nx r.data r.aR
 len:r.bd.length≤1048576
theorem bR.Ok.kd {r:bR}(h:r.Ok): r.kd<256:=by
 have:=h.good
 simp [dU] at this
 omega
def logB : Nat→List bR→List Nat
 | _,[]=>[]
 | n,r::l=>iA n r.bd++logB (n+r.len) l
def gC : Nat→List bR→List Nat
 | _,[]=>[]
 | a,r::l=>a::gC (a+r.len) l
def rS (j:List Nat): Prop:=j.length<8∨j.length-8<leN (j.take 4)
theorem Rx {x y:List Nat}{a b:Nat}(I:x.length=a): ((x++y).take (a+b)).drop a=y.take b:=by
 subst I
 rw [tI,fR (by omega),nX rfl]
 congr 1; omega
section
variable {told:dM} {h:H} {S:List ax} {X:ax} {v:V} {l:List Nat}
theorem Mz (U:W told){pre j:List Nat}{n a:Nat}(hj:rS j)(ha:pre.length=a)(J:l=pre++j)(FJ:l.length≤1073741824)(s:Sat h (X::S))(I:cU X (cY v l)):
  Call ⟨Tryz.prog,told⟩ 57 [v,.int .i64 (a:Int),.int .u64 (n:Int)] h fun r h'=>r=.bE [.agg (iI 0 0 0 0 .bz .bz),.int .i64 0,.int .i64 4]∧Sat h' (X::S):=by
 have hlen:l.length=a+j.length:=by rw [J,bC,ha]
 have hvl:=bj (P:=Tryz.prog) (h:=h) aS (s.aL (k:=0) rfl I)
 have m1:(l.take (a+4)).drop a=j.take 4:=by rw [J]; exact Rx ha
 refine Call.of_wp (U.free _ rfl) Tryz.func57 rfl rfl (zg rfl ?_)
 refine aB.cT s rfl rfl rfl (cI rI) (fun p6 h s => ?_)
 refine zk 7 rfl (zh rfl (ah rfl rfl bB) (by simp) ?_)
 refine zk 3 rfl (zo rfl (bf rfl rfl rfl (bj aS (s.aL (k:=1) rfl I))) (zh rfl (ah rfl rfl ep) (by simp; omega) ?_))
 refine zk 8 rfl (zo rfl (bf rfl rfl rfl (bj aS (s.aL (k:=1) rfl I))) (zm rfl (zb rfl (by exact lV (aY (by omega) (by omega))) ?_)))
 by_cases h8:j.length<8
 ·skip
  refine zt rfl (ah rfl rfl bB) (by simp; omega) ?_
  refine zk 4 rfl (zo rfl (c8 rfl (by rw [xq]; rfl)) ?_)
  refine zS rfl (s.ia (j:=0) rfl gM rfl rfl) (fun h s => ?_)
  refine zk 3 rfl ?_
  refine WP.ret ⟨aa,_,xP rfl (s.fM (k:=0) rfl nE gM) rfl rfl,?_⟩
  exact ⟨rfl,s.drop⟩
 have eX:j.length-8<leN (j.take 4):=by rcases hj with h | h; exact absurd h h8; exact h
 have hw4:leN (j.take 4)<4294967296:=by
  have:=zX (j.take 4) (fun b hb=>(s.aL (k:=1) rfl I).1 b (by rw [J]; exact List.mem_append.2 (.inr (gH hb))))
  rwa [dP,pM (by omega)] at this
 refine zh rfl (ah rfl rfl bB) (by simp; omega) ?_
 refine zk 8 rfl (zb rfl (by exact bU (aY (by omega) (by omega))) ?_)
 refine zo rfl (cF (p:=some (.int .i64 (a:Int))) (q:=some (.int .i64 ((a:Int)+4))) (m:=none) (p':=some a) (q':=some (a+4)) (m':=none) rfl rfl rfl rfl (by rw [fO (by omega)]; rfl) (by rw [fO (by omega)]; congr 2 <;> omega) rfl (iN (s.aL (k:=1) rfl I) (a:=a) (b:=a+4) (by omega) (by omega)).1) ?_
 refine zc rfl (qb U s (k:=1) rfl (mQ I (a:=a) (b:=a+4) (by omega) (by omega)) (by rw [m1,dP]; omega)) ?_
 rintro r h' ⟨rfl,rfl⟩
 rw [m1]
 refine zk 6 rfl ?_
 by_cases EF:1048576<leN (j.take 4)
 ·skip
  refine zt rfl (ah rfl rfl ep) (by simp; omega) ?_
  refine zk 14 rfl (zo rfl (c8 rfl (by rw [xq]; rfl)) ?_)
  refine zS rfl (s.ia (j:=0) rfl gM rfl rfl) (fun h s => ?_)
  refine zk 3 rfl ?_
  refine WP.ret ⟨aa,_,xP rfl (s.fM (k:=0) rfl nE gM) rfl rfl,?_⟩
  exact ⟨rfl,s.drop⟩
 refine zh rfl (ah rfl rfl ep) (by simp; omega) ?_
 refine zk 2 rfl (zo rfl (bZ rfl (by exact jJ cx bG (aY (by omega) (by omega)))) ?_)
 refine zm rfl (zo rfl (bf rfl rfl rfl (bj aS (s.aL (k:=1) rfl I))) (zm rfl (zb rfl (by exact lV (aY (by omega) (by omega))) ?_)))
 refine zb rfl (by exact lV (aY (by omega) (by omega))) ?_
 refine zt rfl (ah rfl rfl ep) (by simp; omega) ?_
 refine zk 5 rfl (zo rfl (c8 rfl (by rw [xq]; rfl)) ?_)
 refine zS rfl (s.ia (j:=0) rfl gM rfl rfl) (fun h s => ?_)
 refine zk 3 rfl ?_
 refine WP.ret ⟨aa,_,xP rfl (s.fM (k:=0) rfl nE gM) rfl rfl,?_⟩
 exact ⟨rfl,s.drop⟩
end
def Dk.qO (δ:Dk)(n:Nat): Int×Dk :=
 if δ.dead=true then (9,δ) else if ¬n≤δ.log.length then (1,δ) else if δ.aD=0 then (9,δ.die) else (0,{ δ.c9 with log:=δ.log.take n,aJ:=n })
def Dk.dI (δ:Dk)(n:Nat): Int×Dk:=if n<δ.log.length then δ.qO n else (0,δ)
def Dk.cD (δ:Dk)(n:Nat): Int×Dk :=
 if (δ.dI n).1≠0 then δ.dI n else if (δ.dI n).2.aJ<n then (δ.dI n).2.cg else (0,(δ.dI n).2)
def ie (base aC:Nat)(rs:List bR): Lg:={ base:=base,b:=logB base rs,bu:=gC 0 rs,forced:=(logB base rs).length,check:=aC }
theorem sG (n:Nat)(b:List Nat): (iA n b).length=8+b.length:=by rw [rN]
theorem JN {h h':H}{c:Nat}{v:V}(I:c<1073741824)(he:makeSliceV Tryz.prog h 32 (.int .i64 0) (.int .i64 (c:Int))=some (v,h')): v=.sl h.next 0 0 (.exact c):=by
 obtain ⟨i,hi,i1,i2⟩:=wC
 simp only [makeSliceV,aS,hi,rG,i1,i2,V.cells,bl,bY,cQ,dW] at he
 rw [show (decide ((0:Int)≤0)&&decide ((0:Int)≤(c:Int))&&decide ((c:Int)<1073741824)&&Nat.ble 1 4096&&Nat.beq (0+1) 1&&Nat.ble 1 1)=true by simp; omega,ag] at he
 exact (congrArg Prod.fst (bx he)).symm
theorem Iz {h h':H}{id c n:Nat}{x v:V}{m:List Nat}(J:View h x m)(I:n+m.length≤c)(he:appendV Tryz.prog h #[32,32] (.sl id 0 n (.exact c)) x=some (v,h')): v=.sl id 0 (n+m.length) (.exact c):=by
 obtain ⟨i,hi,i1,i2⟩:=wC
 unfold appendV at he
 simp only [aS,hi,rG,i1,i2,V.cells,bl,bY,CP J] at he
 rw [show (Nat.ble 1 1&&Nat.ble 1 4096&&Nat.beq (0+1) 1)=true from rfl,ag] at he
 cases hm:Nat.beq m.length 0 with
 | true =>
  rw [hm,ag] at he
  rw [beq_iff.1 hm]; exact (congrArg Prod.fst (bx he)).symm
 | false =>
  rw [hm,ay,aQ.2 I,ag] at he
  split at he
  ·exact (congrArg Prod.fst (bx he)).symm
  ·cases he
theorem Pj {id c n:Nat}{l:List Nat}(hn:n≤l.length): cU (bK (.sl id 0 l.length (.exact c)) l) (bK (.sl id 0 n (.exact c)) (l.take n)):=by
 intro m r ⟨h1,h2⟩
 have U:(l.take n).length=n:=by rw [dP]; omega
 refine ⟨fun b hb=>h1 b (gH hb),.inr (.inl ?_)⟩
 rcases h2 with ⟨e,_⟩ | ⟨J,cs,c',e,hg,hc⟩ | ⟨J,e,_⟩
 ·cases e
 ·injection e with e1 _ _ I
  injection I with I
  subst e1; subst I
  refine ⟨_,ofBytes (l.drop n)++cs,_,by rw [U],?_,?_⟩
  ·rw [←bH,←rX,DT]; exact hg
  ·rw [bC,dR,nW,U]; omega
 ·injection e with _ _ _ I; cases I
section
variable {told:dM} {h:H} {S:List ax} {X:ax} {p:Nat} {δ:Dk}
theorem JO (hT:W told){x:V}{l:List Nat}(s:Sat h (X::S))(J:cU X (cY x l))(hl:l.length<1073741824):
  Call ⟨Tryz.prog,told⟩ 65 [x] h fun v h'=>∃id,v=.sl id 0 l.length (.exact l.length)∧Sat h' (bK v l::X::S):=by
 refine Call.of_wp (hT.free _ rfl) Tryz.func65 rfl rfl (zK 7 rfl (zo rfl (bf rfl rfl rfl (bj aS (s.aL (k:=0) rfl J))) ?_))
 obtain ⟨v1,h1,e1,s1⟩:=Fp s hl
 have U:=JN hl e1
 subst U
 refine aB.any rfl rfl rfl (OpR.of (R:=fun v h'=>v=.sl h.next 0 0 (.exact l.length)∧h'=h1) (rY rfl rfl e1) ⟨rfl,rfl⟩) ?_
 rintro v h' ⟨rfl,rfl⟩
 refine zm rfl ?_
 obtain ⟨v2,h2,e2,s2⟩:=C4 s1 J (by simp; omega)
 have I:=Iz (s1.aL (k:=1) rfl J) (by omega) e2
 rw [dV] at I
 subst I
 refine aB.any rfl rfl rfl (OpR.of (R:=fun v h'=>v=.sl h.next 0 l.length (.exact l.length)∧h'=h2) (oT rfl rfl e2) ⟨rfl,rfl⟩) ?_
 rintro v h' ⟨rfl,rfl⟩
 exact zk 2 rfl (WP.ret ⟨aa,_,rfl,_,rfl,s2⟩)
theorem MA (I:W told)(s:Sat h (aG p δ::S))(J:δ.dead=false)(U:δ.log.length<1073741824): Call ⟨Tryz.prog,told⟩ 103 [.ptr p 0] h fun v h' =>
  ∃id,v=.bE [.sl id 0 δ.log.length (.exact δ.log.length),.int .i64 0]∧Sat h' (bK (.sl id 0 δ.log.length (.exact δ.log.length)) δ.log::aG p δ::S):=by
 obtain ⟨pg,wt,nw,lg,mk,tn,tl,ops,s⟩:=bt.1 s
 refine Call.of_wp (I.free _ rfl) Tryz.func103 rfl rfl (zK 10 rfl (zf rfl (jt _ _) (zh rfl ((aW rfl (s.ld (k:=0) rfl ke rfl))) (J) (zk 7 rfl (zf rfl (js _ _) (zl rfl (s.ld (k:=0) rfl bO rfl) (zc rfl (JO I (s.ae [4]) (bM _ _) U) ?_)))))))
 rintro v h ⟨id,rfl,s⟩
 exact zk 3 rfl (WP.ret ⟨aa,_,rfl,id,rfl,(bt.2 ⟨pg,wt,nw,lg,mk,tn,tl,ops,s.ae [2,2,2,2,1,1,1,1,0]⟩).ae [1]⟩)
end
section
variable {told:dM} {h:H} {S:List ax} {X:ax} {v b pv:V} {l j:List Nat} {q p base aC n:Nat} {δ:Dk}
theorem abd {id m n c:Nat}: slR (.sl id 0 m (.exact c)) 0 n=.sl id 0 n (.exact c):=by
 simp only [slR,v_,iY,kH]
 cases Nat.beq c 0 <;> rfl
theorem Dk.Ok.dI {δ:Dk}{n:Nat}(h:δ.Ok): (δ.dI n).2.Ok:=by
 have J:=h.len
 unfold Dk.dI Dk.qO
 split
 ·split
  ·exact h
  ·split
   ·exact h
   ·split
    ·exact h.die
    ·have I:=h.c9
     exact ⟨I.aD,by show (δ.log.take n).length≤_; rw [dP]; omega,I.room,I.now,I.aq,by show n≤(δ.log.take n).length; rw [dP]; omega,I.many⟩
 ·exact h
theorem Dk.Ok.cD {δ:Dk}{n:Nat}(h:δ.Ok): (δ.cD n).2.Ok:=by
 unfold Dk.cD
 split
 ·exact h.dI
 ·split
  ·exact h.dI.cg
  ·exact h.dI
theorem Xr (hT:W told)(s:Sat h (aG p δ::S))(J:δ.Ok): Call ⟨Tryz.prog,told⟩ 104 [.ptr p 0,.int .i64 (n:Int)] h fun v h'=>v=.int .i64 (δ.qO n).1∧Sat h' (aG p (δ.qO n).2::S):=by
 have hl:=J.len
 refine (QB hT s J.aD (by omega)).mono fun v h' hr => ?_
 unfold Dk.qO
 rcases hr with ⟨I,rfl,s⟩ | ⟨I,h1,rfl,s⟩ | ⟨I,h1,h2,U,rfl,s⟩ | ⟨I,h1,h2,U,rfl,s⟩
 ·rw [aj I]; exact ⟨rfl,s⟩
 ·rw [af (by rw [I]; decide),aj (by omega)]; exact ⟨rfl,s⟩
 ·rw [af (by rw [I]; decide),af (by omega),aj U]; exact ⟨rfl,s⟩
 ·rw [af (by rw [I]; decide),af (by omega),af U]; exact ⟨rfl,s⟩
theorem Ry (U:WR told){r:bR}{a:Nat}{pre rest:List Nat}(I:r.Ok)(ha:pre.length=a)(hl:l=pre++(iA n r.bd++rest))(J:l.length≤1073741824)(s:Sat h (X::S))(hX:cU X (cY v l)):
  Call ⟨Tryz.prog,told⟩ 57 [v,.int .i64 (a:Int),.int .u64 (n:Int)] h fun x h'=>∃dt ch cs,x=.bE [.agg (iI r.kd r.tx r.pv r.nx dt ch),.int .i64 ((a+r.len:Nat):Int),.int .i64 0]∧Sat h' (X::bK dt r.data::.arr 4 ch cs::cZ cs r.aR::S):=by
 refine (Iu U I.good I.kd I.rd rfl I.len ha hl J s hX).mono fun x h' hx => ?_
 have e:a+r.len=a+8+(dB r.kd r.tx r.pv r.nx r.data r.aR).length:=by rw [bR.len,bR.bd]; omega
 rw [e]
 exact hx
theorem KY {kd n e:Int}{tx pv nx:Nat}{dt ch:V}(I:dt.beq dt=true)(J:ch.beq ch=true): (V.bE [.agg (iI kd tx pv nx dt ch),.int .i64 n,.int .i64 e]).beq (V.bE [.agg (iI kd tx pv nx dt ch),.int .i64 n,.int .i64 e])=true:=by
 simp only [V.beq,V.beqL,iI,I,J,lU,dK,iD,ag]
noncomputable def woL : Code:=cM [1,1,1,1,1,1,1,0,0,0] ((Tryz.f58.body).getD .skip)
theorem MB (hT:WR told)(FJ:l.length≤16777216)(r9:base+l.length≤1099511627776)(hj:rS j): ∀(rs:List bR) (a:Nat) (pre st:List Nat) (J:V) (h:H) (E:List (Nat×V)) (Q:Ex→List (Nat×V)→H→Prop),
  (∀r∈rs,r.Ok)→l=pre++(logB (base+a) rs++j)→pre.length=a→st.length≤a→Sat h (pt q (.cells 6 (zY p base b J 0 aC) false)::bK b l::.arr 1 J (gR st)::S) →
  Has E [(0,pv),(6,.ptr q 0),(7,.int .i64 (a:Int))] →
  (∀E' h' I,Has E' [(0,pv),(6,.ptr q 0),(7,.int .i64 ((a+(logB (base+a) rs).length:Nat):Int))]→Sat h' (pt q (.cells 6 (zY p base b I 0 aC) false)::bK b l::.arr 1 I (gR (st++gC a rs))::S)→Q (.exit 1) E' h') →
  WP ⟨Tryz.prog,told⟩ 134 (.loop woL) E h Q:=by
 have hW:=hT.w
 intro rs
 induction rs with
 | nil =>
  intro a pre st J h E Q _ hl ha _ s hE hq
  have hq:∀E' h',Has E' [(0,pv),(6,.ptr q 0),(7,.int .i64 (a:Int))]→Sat h' (pt q (.cells 6 (zY p base b J 0 aC) false)::bK b l::.arr 1 J (gR st)::S)→Q (.exit 1) E' h':=fun E' h' h1 h2=>hq E' h' J h1 (by rw [gC,bF]; exact h2)
  have hlen:l.length=a+j.length:=by rw [hl,logB,cW,bC,ha]
  refine WP.loop (WP.has hE (zK 6 rfl (zf rfl (eO _ _) (zl rfl (s.ld (k:=0) rfl bO rfl) (zo rfl (bf rfl rfl rfl (bj aS (s.aL (k:=1) rfl (bM _ _)))) ?_)))))
  by_cases hz:j.length=0
  ·skip
   refine zh rfl (ah rfl rfl bB) (by simp; omega) ?_
   exact zk 2 rfl (WP.exit (hq _ _ ⟨rfl,rfl,rfl,aa⟩ s))
  ·skip
   refine zt rfl (ah rfl rfl bB) (by simp; omega) ?_
   refine zk 3 rfl (WP.block (zw ?_))
   have s0:=s
   have Wq:=dc (s.buf (k:=1) rfl).view
   refine WP.drawn [ai,ai,ai,ai,ai,ai,ai,ai,ai,ai,ai,ai,ai,some (1,2),some (1,2),some (1,3),some (1,3),ai,ai,ai,ai] rfl (by kernel_rfl) (by kernel_rfl) ?_
   refine zM rfl (zN rfl (zF rfl (eO _ _) (zL rfl (s.ld (k:=0) rfl bO rfl) (zM rfl (zM rfl (zN rfl (zF rfl (gN _ _) (zL rfl (s.ld (k:=0) rfl gx rfl) (zM rfl (aA.op rfl rfl rfl (by simp only [isEff,cx]) (bZ rfl (by exact jJ bG cx (fb (by omega) (by omega)))) ?_))))))))))
   refine zO rfl (ah rfl rfl (by exact bU (fb (by omega) (by omega)))) ?_
   refine aA.any rfl rfl rfl rfl (OpR.call rfl rfl rfl rfl (Mz (n:=base+a) (a:=a) hW hj ha hl (by omega) (s.ae [1]) (bM _ _))) ?_
   rintro x h ⟨rfl,s⟩
   dsimp only [zY,aU,bringA] at s
   have s1:=s
   have U:=KY (kd:=0) (tx:=0) (pv:=0) (nx:=0) (dt:=.bz) (ch:=.bz) (n:=0) (e:=4) rfl rfl
   have Ic:=Bd (kd:=0) (tx:=0) (pv:=0) (nx:=0) (dt:=.bz) (ch:=.bz) rfl rfl
   refine zM rfl (zO rfl (cA rfl rfl) (zO rfl (cA rfl rfl) (zO rfl (cA rfl rfl) (aA.any rfl rfl rfl rfl (OpR.cT s (cI rI)) ?_))))
   rintro v h ⟨p8,rfl,s⟩
   dsimp only [V.cells,List.length_cons,List.length_nil,Nat.reduceAdd] at s
   have s2:=s
   refine aA.h_ rfl rfl rfl (OpR.eA rfl rfl rfl (s.ia (j:=0) rfl gM rfl rfl)) ?_
   rintro v h ⟨rfl,s⟩
   dsimp only [setA] at s
   refine zA rfl (zA rfl ?_)
   refine aA.nil ⟨⟨aa,aa,aa,aa,aa,aa,aa,aa,aa,aa,aa,aa,aa,fun _ _=>.inr ⟨rfl,⟨_,bn rfl⟩,U⟩,fun _ _=>.inr ⟨rfl,⟨_,cA rfl rfl⟩,Ic⟩,fun _ _=>.inr ⟨rfl,⟨_,cA rfl rfl⟩,aX _ rfl⟩,fun _ _=>.inr ⟨rfl,⟨_,cA rfl rfl⟩,aX _ rfl⟩,aa,aa,aa,aa,aa⟩,?_⟩
   exact zK 4 rfl (zt rfl (ah rfl rfl aV) (rfl) (zk 2 rfl (WP.exit (hq _ _ ⟨rfl,rfl,rfl,aa⟩ ((s.del 0).ae [1,0,0])))))
 | cons r rs ih =>
  intro a pre st J h E Q vb hl ha gF s hE hq
  have hr:=vb r br
  have FD:(iA (base+a) r.bd).length=r.len:=by rw [sG]; rfl
  have hlen:l.length=a+(r.len+((logB (base+a+r.len) rs).length+j.length)):=by rw [hl,logB]; simp only [bC,ha,FD]; omega
  have hr8:8≤r.len:=by rw [bR.len]; omega
  refine WP.loop (WP.has hE (zK 6 rfl (zf rfl (eO _ _) (zl rfl (s.ld (k:=0) rfl bO rfl) (zo rfl (bf rfl rfl rfl (bj aS (s.aL (k:=1) rfl (bM _ _)))) (zt rfl (ah rfl rfl bB) (by simp; omega) ?_))))))
  refine zk 3 rfl (WP.block (zw ?_))
  have s0:=s
  have Wq:=dc (s.buf (k:=1) rfl).view
  refine WP.drawn [ai,ai,ai,ai,ai,ai,ai,ai,ai,ai,ai,ai,ai,some (1,2),some (1,2),some (1,3),some (1,3),ai,ai,ai,ai] rfl (by kernel_rfl) (by kernel_rfl) ?_
  refine zM rfl (zN rfl (zF rfl (eO _ _) (zL rfl (s.ld (k:=0) rfl bO rfl) (zM rfl (zM rfl (zN rfl (zF rfl (gN _ _) (zL rfl (s.ld (k:=0) rfl gx rfl) (zM rfl (aA.op rfl rfl rfl (by simp only [isEff,cx]) (bZ rfl (by exact jJ bG cx (fb (by omega) (by omega)))) ?_))))))))))
  refine zO rfl (ah rfl rfl (by exact bU (fb (by omega) (by omega)))) ?_
  refine aA.any rfl rfl rfl rfl (OpR.call rfl rfl rfl rfl (Ry (r:=r) (n:=base+a) (a:=a) (rest:=logB (base+a+r.len) rs++j) hT hr ha (by rw [hl,logB,bH]) (by omega) (s.ae [1]) (bM _ _))) ?_
  rintro x h ⟨dt,ch,cs,rfl,s⟩
  dsimp only [zY,aU,bringA] at s
  have j5:=(s.buf (k:=1) rfl).view.cells
  have ki:=s.kU (j:=2) rfl
  have BA:=dc (s.buf (k:=1) rfl).view
  have gF:[V.int .i64 (r.kd:Int),V.int .u64 (r.tx:Int),V.int .u64 (r.pv:Int),V.int .u64 (r.nx:Int),dt,ch].all storable=true:=mZ j5.2 ki.2.1
  have U:=KY (kd:=r.kd) (tx:=r.tx) (pv:=r.pv) (nx:=r.nx) (n:=((a+r.len:Nat):Int)) (e:=0) BA ki.2.2
  have Ic:=Bd (kd:=r.kd) (tx:=r.tx) (pv:=r.pv) (nx:=r.nx) BA ki.2.2
  have s1:=s
  refine zM rfl (zO rfl (cA rfl rfl) (zO rfl (cA rfl rfl) (zO rfl (cA rfl rfl) (aA.any rfl rfl rfl rfl (OpR.cT s (cI rI)) ?_))))
  rintro v h ⟨p8,rfl,s⟩
  dsimp only [V.cells,List.length_cons,List.length_nil,Nat.reduceAdd] at s
  have s2:=s
  refine aA.h_ rfl rfl rfl (OpR.eA rfl rfl rfl (s.ia (j:=0) rfl gM rfl gF)) ?_
  rintro v h ⟨rfl,s⟩
  dsimp only [setA] at s
  refine zA rfl (zA rfl ?_)
  refine aA.nil ⟨⟨aa,aa,aa,aa,aa,aa,aa,aa,aa,aa,aa,aa,aa,fun _ _=>.inr ⟨rfl,⟨_,bn rfl⟩,U⟩,fun _ _=>.inr ⟨rfl,⟨_,cA rfl rfl⟩,Ic⟩,fun _ _=>.inr ⟨rfl,⟨_,cA rfl rfl⟩,aX _ rfl⟩,fun _ _=>.inr ⟨rfl,⟨_,cA rfl rfl⟩,aX _ rfl⟩,aa,aa,aa,aa,aa⟩,?_⟩
  refine zK 4 rfl (zh rfl (ah rfl rfl aV) (rfl) ?_)
  have s:=((((s.ae [5,5,1]).del 3).del 3).del 3).del 3
  dsimp only [bringA,getA,aU] at s
  refine zk 7 rfl (zf rfl (jc _ _) (zl rfl (s.ld (k:=0) rfl qB rfl) (zm rfl ?_)))
  obtain ⟨i1,lZ,kf,sR⟩:=xJ
  obtain ⟨iv,h1,e1,s1⟩:=oc (P:=Tryz.prog) (k:=1) (x:=.int .i64 (a:Int)) s eH Fo jK rfl (by decide) (by decide) rfl rfl
  dsimp only [V.cells] at s1
  refine aB.any rfl rfl rfl (OpR.of (R:=fun v h'=>v=iv∧h'=h1) (qu rfl e1) ⟨rfl,rfl⟩) ?_
  rintro v h' ⟨rfl,rfl⟩
  obtain ⟨I,h2,e2,s2⟩:=jB (s1.ae [2,0]) eH lZ Fo kf (by omega) rfl (by decide) (by simp only [kz,bl,bY]; omega)
  dsimp only [aU,bringA] at s2
  refine aB.any rfl rfl rfl (OpR.of (R:=fun v h'=>v=I∧h'=h2) (oT rfl rfl e2) ⟨rfl,rfl⟩) ?_
  rintro v h' ⟨rfl,rfl⟩
  have hv:=s2.kU (j:=0) rfl
  refine zk 2 rfl (zf rfl (jc _ _) (zS rfl (s2.ee (k:=2) rfl Qr rfl (by decide) hv.1 hv.2.1) ?_))
  intro h s
  dsimp only [Nat.reduceAdd,List.set,setA] at s
  refine za rfl (zv ?_)
  have s:=(s.ae [2,2,0]).del 3
  refine ih (a+r.len) (pre++iA (base+a) r.bd) (st++[a]) _ _ _ Q (fun x hx=>vb x (bp _ hx)) (by rw [hl,logB]; simp only [bH,gK]) (by rw [bC,ha,FD]) (by simp; omega) (by rw [show gR (st++[a])=gR st++[.int .i64 (a:Int)] by simp [gR]]; exact s) ⟨rfl,rfl,rfl,aa⟩ (fun E' h' I iH s' => ?_)
  refine hq E' h' I ?_ ?_
  ·rw [logB,bC,FD,←gK,gK base]
   exact iH
  ·rw [gC,List.append_cons]
   exact s'
noncomputable def woE : Code:=cM [1,1,1,1,1,1,1,1,1] ((Tryz.f58.body).getD .skip)
theorem DB (hT:W told){st:List Nat}{sv:V}(s:Sat h (pt q (.cells 6 (zY p base b sv 0 aC) false)::bK b l::.arr 1 sv (gR st)::aG p δ::S))(hf:δ.aD<4294967296){E:List (Nat×V)}{Q:Ex→List (Nat×V)→H→Prop}(hE:Has E [(0,.ptr p 0),(6,.ptr q 0)])
 {y:Int×Dk}(J:y=if δ.aJ<l.length then δ.cg else (0,δ))
 (h1:∀E' h',y.1≠0→look E' 2=some .cK→look E' 3=some (.int .i64 y.1)→Sat h' (aG p y.2::S)→Q .ret E' h')
 (h2:∀E' h',y.1=0→look E' 2=some (.ptr q 0)→look E' 3=some (.int .i64 0)→Sat h' (bh q p { base:=base,b:=l,bu:=st,forced:=l.length,check:=aC }::aG p y.2::S)→Q .ret E' h'):
  WP ⟨Tryz.prog,told⟩ 134 woE E h Q:=by
 refine WP.has hE (zK 2 rfl ?_)
 have U:=s
 have I:=dc (s.buf (k:=1) rfl).view
 refine WP.drawn [none,none,some (0,2),some (0,2),some (0,2),some (0,2),some (0,2),none] rfl (by kernel_rfl) (by kernel_rfl) ?_
 refine zM rfl (aA.any rfl rfl rfl rfl (OpR.call rfl rfl rfl rfl (BB hT (s.ae [3]))) ?_)
 rintro v h' ⟨rfl,rfl⟩
 refine zM rfl (zN rfl (zF rfl (eO _ _) (zL rfl (s.ld (k:=0) rfl bO rfl) (zO rfl (bf rfl rfl rfl (bj aS (s.aL (k:=1) rfl (bM _ _)))) ?_))))
 by_cases hc:δ.aJ<l.length
 ·skip
  rw [aj hc] at J
  refine aA.qx rfl rfl rfl rfl (ah rfl rfl bB) (by rw [show δ.xB=δ.aJ from rfl]; simp; omega) ?_
  refine aA.nil ⟨⟨aa,aa,fun _ _=>.inr ⟨rfl,⟨_,bn rfl⟩,aX _ rfl⟩,fun _ _=>.inr ⟨rfl,⟨_,kq rfl⟩,aX _ rfl⟩,fun _ _=>.inr ⟨rfl,⟨_,jI rfl (eO _ _)⟩,aX _ rfl⟩,dX (.inr ⟨rfl,⟨_,aW rfl (U.ld (k:=0) rfl bO rfl)⟩,I⟩) (.inr ⟨rfl,⟨_,aW rfl (s.ld (k:=0) rfl bO rfl)⟩,I⟩),dX (.inr ⟨rfl,⟨_,bf rfl rfl rfl (bj aS (U.aL (k:=1) rfl (bM _ _)))⟩,aX _ rfl⟩) (.inr ⟨rfl,⟨_,bf rfl rfl rfl (bj aS (s.aL (k:=1) rfl (bM _ _)))⟩,aX _ rfl⟩),aa,aa⟩,?_⟩
  refine zK 4 rfl (zc rfl (T8 hT (s.ae [3]) hf) ?_)
  rintro v h ⟨rfl,s⟩
  rw [←J] at s
  rw [←J]
  by_cases h0:y.1=0
  ·skip
   rw [h0]
   refine zk 5 rfl (zh rfl (ah rfl rfl aV) (rfl) (zk 8 rfl (zf rfl (eO _ _) (zl rfl (s.ld (k:=1) rfl bO rfl) (zo rfl (bf rfl rfl rfl (bj aS (s.aL (k:=2) rfl (bM _ _)))) (zn rfl (zf rfl (pV _ _) ?_)))))))
   refine zS rfl (by exact s.ee (k:=1) rfl jK rfl (by decide) rfl rfl) (fun h s => ?_)
   exact zk 7 rfl (WP.ret (h2 _ _ h0 rfl rfl (dm.2 ⟨_,_,s.ae [1,1,1,0]⟩)))
  ·skip
   refine zk 5 rfl (zt rfl (ah rfl rfl aV) (by simpa using h0) ?_)
   exact zk 8 rfl (WP.ret (h1 _ _ h0 rfl rfl (((s.del 3).del 2).del 1)))
 ·skip
  rw [af hc] at J
  subst J
  refine aA.nD rfl rfl rfl rfl (ah rfl rfl bB) (by rw [show δ.xB=δ.aJ from rfl]; simp; omega) ?_
  refine aA.nil ⟨⟨aa,aa,fun _ _=>.inr ⟨rfl,⟨_,bn rfl⟩,aX _ rfl⟩,fun _ _=>.inr ⟨rfl,⟨_,kq rfl⟩,aX _ rfl⟩,fun _ _=>.inr ⟨rfl,⟨_,jI rfl (eO _ _)⟩,aX _ rfl⟩,dX (.inr ⟨rfl,⟨_,aW rfl (U.ld (k:=0) rfl bO rfl)⟩,I⟩) (.inr ⟨rfl,⟨_,aW rfl (s.ld (k:=0) rfl bO rfl)⟩,I⟩),dX (.inr ⟨rfl,⟨_,bf rfl rfl rfl (bj aS (U.aL (k:=1) rfl (bM _ _)))⟩,aX _ rfl⟩) (.inr ⟨rfl,⟨_,bf rfl rfl rfl (bj aS (s.aL (k:=1) rfl (bM _ _)))⟩,aX _ rfl⟩),aa,aa⟩,?_⟩
  refine zK 7 rfl (zf rfl (eO _ _) (zl rfl (s.ld (k:=0) rfl bO rfl) (zo rfl (bf rfl rfl rfl (bj aS (s.aL (k:=1) rfl (bM _ _)))) (zn rfl (zf rfl (pV _ _) ?_)))))
  refine zS rfl (by exact s.ee (k:=0) rfl jK rfl (by decide) rfl rfl) (fun h s => ?_)
  exact zk 7 rfl (WP.ret (h2 _ _ rfl rfl rfl (dm.2 ⟨_,_,s⟩)))
noncomputable def woR : Code:=cM [1,1,1,1,1,1] ((Tryz.f58.body).getD .skip)
theorem FT (hT:WR told){rs:List bR}{yx:Nat}(hb:b=.sl yx 0 δ.log.length (.exact δ.log.length))(s:Sat h (pt q (.cells 6 (zY p base b .bz 0 aC) false)::bK b δ.log::aG p δ::S))(U:δ.Ok)(r9:base+δ.log.length≤1099511627776)
 (I:δ.log=logB base rs++j)(vb:∀r∈rs,r.Ok)(hj:rS j){E:List (Nat×V)}{Q:Ex→List (Nat×V)→H→Prop}(hE:Has E [(0,.ptr p 0),(6,.ptr q 0)])
 (h1:∀E' h',(δ.cD (logB base rs).length).1≠0→look E' 2=some .cK→look E' 3=some (.int .i64 (δ.cD (logB base rs).length).1)→Sat h' (aG p (δ.cD (logB base rs).length).2::S)→Q .ret E' h')
 (h2:∀E' h',(δ.cD (logB base rs).length).1=0→look E' 2=some (.ptr q 0)→look E' 3=some (.int .i64 0)→Sat h' (bh q p (ie base aC rs)::aG p (δ.cD (logB base rs).length).2::S)→Q .ret E' h'):
  WP ⟨Tryz.prog,told⟩ 134 woR E h Q:=by
 have hW:=hT.w
 have FJ:=U.len
 have hlen:δ.log.length=(logB base rs).length+j.length:=by rw [I,bC]
 subst hb
 have OT:δ.log.take (logB base rs).length=logB base rs:=by rw [I,jX rfl]
 generalize ho:δ.cD (logB base rs).length=y at h1 h2
 unfold Dk.cD at ho
 refine WP.has hE (zK 5 rfl (WP.block ?_))
 refine MB (pv:=.ptr p 0) hT FJ r9 hj rs 0 [] [] .bz h _ _ vb (by rw [cW]; exact I) rfl (by simp) ((s.ae [0,0]).qC.ae [1,1,0]) ⟨rfl,rfl,rfl,aa⟩ (fun E h sv hE s => ?_)
 rw [iY,dV] at hE
 rw [cW] at s
 refine WP.has hE (zK 6 rfl (zf rfl (eO _ _) (zl rfl (s.ld (k:=0) rfl bO rfl) (zo rfl (bf rfl rfl rfl (p_ rfl aS)) ?_))))
 have J:(δ.dI (logB base rs).length)=if (logB base rs).length<δ.log.length then δ.qO (logB base rs).length else (0,δ):=rfl
 by_cases bV:(logB base rs).length<δ.log.length
 ·skip
  rw [aj bV] at J
  refine zt rfl (ah rfl rfl bB) (by simp; omega) ?_
  refine zk 7 rfl (zc rfl (Xr (n:=(logB base rs).length) hW (s.ae [3]) U) ?_)
  rintro v h ⟨rfl,s⟩
  rw [←J] at s
  rw [←J]
  by_cases h0:(δ.dI (logB base rs).length).1=0
  ·skip
   rw [af (not_not_intro h0)] at ho
   rw [h0]
   refine zk 5 rfl (zh rfl (ah rfl rfl aV) (rfl) ?_)
   have lK:=(iz (s.buf (k:=2) rfl).view (b:=(logB base rs).length) (by omega)).1
   rw [abd] at lK
   refine zk 7 rfl (zf rfl (eO _ _) (zl rfl (s.ld (k:=1) rfl bO rfl) (zm rfl (zo rfl (cF (p:=none) (q:=some (.int .i64 ((logB base rs).length:Int))) (m:=none) (p':=none) (q':=some (logB base rs).length) (m':=none) rfl rfl rfl rfl rfl (by simp [g8,bndV]) rfl lK) ?_))))
   refine zn rfl (zf rfl (eO _ _) (zS rfl (s.ee (k:=1) rfl jM rfl (by decide) rfl rfl) ?_))
   intro h s
   have s:=(s.ae [2]).fY (Pj (n:=(logB base rs).length) (by omega))
   rw [OT] at s
   exact zv (DB (l:=logB base rs) hW (s.ae [2,0,1,0]) U.dI.aD ⟨rfl,rfl,aa⟩ ho.symm h1 h2)
  ·skip
   rw [aj h0] at ho
   rw [ho] at h0 s
   rw [ho]
   refine zk 5 rfl (zt rfl (ah rfl rfl aV) (by simpa using h0) ?_)
   exact zk 8 rfl (WP.ret (h1 _ _ h0 rfl rfl (((s.del 3).del 2).del 1)))
 ·skip
  rw [af bV] at J
  rw [J,af (by simp)] at ho
  refine zh rfl (ah rfl rfl bB) (by simp; omega) ?_
  refine zk 3 rfl ?_
  have e:δ.log=logB base rs:=by
   rw [fR (by omega)] at OT
   exact OT
  exact DB (l:=logB base rs) hW (by rw [e] at s; exact s) U.aD ⟨rfl,rfl,aa⟩ ho.symm h1 h2
def DC (mark:List Nat)(base aC:Nat): Prop:=(mark=[]∧base=1∧aC=0)∨mark=le 8 base++le 8 aC
theorem Rz (hT:WR told){rs:List bR}(s:Sat h (aG p δ::S))(U:δ.Ok)(hd:δ.dead=false)(hm:DC δ.mark base aC)(I:base+δ.log.length≤1099511627776)(uZ:aC<18446744073709551616)
 (J:δ.log=logB base rs++j)(vb:∀r∈rs,r.Ok)(hj:rS j):
  Call ⟨Tryz.prog,told⟩ 58 [.ptr p 0] h fun v h'=>((δ.cD (logB base rs).length).1≠0∧v=.bE [.cK,.int .i64 (δ.cD (logB base rs).length).1]∧Sat h' (aG p (δ.cD (logB base rs).length).2::S)) ∨
   ((δ.cD (logB base rs).length).1=0∧∃q,v=.bE [.ptr q 0,.int .i64 0]∧Sat h' (bh q p (ie base aC rs)::aG p (δ.cD (logB base rs).length).2::S)):=by
 have hW:=hT.w
 have FJ:=U.len
 have Ox:δ.mark.length≤64:=by rcases hm with ⟨hm,_⟩ | hm <;> rw [hm] <;> simp [cR]
 refine Call.of_wp (hW.free _ rfl) Tryz.func58 rfl rfl (zK 8 rfl (zc rfl (Dc hW s Ox) ?_))
 rintro v h (⟨Nr,_,_⟩ | ⟨_,b0,rfl,s⟩)
 ·rw [hd] at Nr; cases Nr
 refine zk 10 rfl (zh rfl (ah rfl rfl aV) (rfl) (zk 6 rfl (zo rfl (c8 rfl (by rw [Sv]; rfl)) ?_)))
 refine aB.cT s rfl rfl rfl (gL rfl rfl) (fun ZO h s => ?_)
 dsimp only [V.cells,List.take,List.length_cons,List.length_nil,Nat.reduceAdd,List.drop,List.cons_append,List.nil_append] at s
 refine zk 7 rfl ?_
 have s:=s.ae [2,0,0]
 dsimp only [bringA,getA,aU] at s
 refine zc rfl (MA hW s hd (by omega)) ?_
 rintro v h ⟨yx,rfl,s⟩
 refine zk 4 rfl (zf rfl (eO _ _) (zS rfl (s.ee (k:=2) rfl jM rfl (by decide) rfl rfl) ?_))
 intro h s
 dsimp only [Nat.reduceAdd,List.set,setA] at s
 refine zk 5 rfl (zh rfl (ah rfl rfl aV) (rfl) (zk 7 rfl (zo rfl (bf rfl rfl rfl (bj aS (s.aL (k:=3) rfl (bM _ _)))) (zv (WP.block (zg rfl ?_))))))
 rcases hm with ⟨hm,rfl,rfl⟩ | hm
 ·skip
  refine zt rfl (ah rfl rfl cB) (by rw [hm]; rfl) ?_
  refine za rfl (zv (zi rfl (WP.skip ?_)))
  exact FT hT rfl ((s.ae [2,0,0]).del 3) U I J vb hj ⟨rfl,rfl,aa⟩ (fun E' h' h0 e1 e2 s'=>⟨aa,_,vJ e1 e2,.inl ⟨h0,rfl,s'⟩⟩) (fun E' h' h0 e1 e2 s'=>⟨aa,_,vJ e1 e2,.inr ⟨h0,_,rfl,s'⟩⟩)
 ·skip
  have h16:δ.mark.length=16:=by rw [hm]; simp [cR]
  refine zh rfl (ah rfl rfl cB) (by rw [h16]; rfl) ?_
  refine zk 5 rfl (zt rfl (ah rfl rfl cB) (by rw [h16]; rfl) ?_)
  refine zk 3 rfl ?_
  have w1:δ.mark.take 8=le 8 base:=by rw [hm,jX (by rw [cR])]
  have w2:δ.mark.drop 8=le 8 aC:=by rw [hm,nX (by rw [cR])]
  have hbv:=dc (s.buf (k:=3) rfl).view
  have s0:=s
  refine WP.drawn [some (0,3),some (0,4),ai,ai,ai,some (0,2),some (0,2),ai,ai,ai,ai,ai,ai,ai] rfl (by kernel_rfl) (by kernel_rfl) ?_
  refine zM rfl (zM rfl (zM rfl (zO rfl (cF (p:=none) (q:=some (.int .i64 8)) (m:=none) (p':=none) (q':=some 8) (m':=none) rfl rfl rfl rfl rfl rfl rfl (iz (s.buf (k:=3) rfl).view (b:=8) (by omega)).1) ?_)))
  refine aA.any rfl rfl rfl rfl (OpR.call rfl rfl rfl rfl (qb hW s (k:=3) rfl (xx (bM _ _) (b:=8) (by omega)) (by rw [w1,cR]; decide))) ?_
  rintro v h' ⟨rfl,rfl⟩
  rw [w1,qL,gJ (by omega)]
  refine zM rfl (zO rfl (cF (p:=some (.int .i64 8)) (q:=none) (m:=none) (p':=some 8) (q':=none) (m':=none) rfl rfl rfl rfl rfl rfl rfl (eC (s.buf (k:=3) rfl).view (a:=8) (by omega)).1) ?_)
  refine aA.any rfl rfl rfl rfl (OpR.call rfl rfl rfl rfl (qb hW s (k:=3) rfl (od (bM _ _) (a:=8) (by omega)) (by rw [w2,cR]; decide))) ?_
  rintro v h' ⟨rfl,rfl⟩
  rw [w2,qL,gJ (by omega)]
  refine zN rfl (zF rfl (gN _ _) (aA.h_ rfl rfl rfl (OpR.eA rfl rfl rfl (s.ee (k:=2) rfl rH rfl (by decide) rfl rfl)) ?_))
  rintro v h ⟨rfl,s⟩
  have s2:=s
  refine zN rfl (zF rfl (pW _ _) (aA.h_ rfl rfl rfl (OpR.eA rfl rfl rfl (s.ee (k:=2) rfl rH rfl (by decide) rfl rfl)) ?_))
  rintro v h ⟨rfl,s⟩
  have BD:=dc (eC (s0.buf (k:=3) rfl).view (a:=8) (by omega)).2.1
  refine aA.nil ⟨⟨fun _ _=>.inr ⟨rfl,⟨_,bn rfl⟩,aX _ rfl⟩,fun _ _=>.inr ⟨rfl,⟨_,bn rfl⟩,aX _ rfl⟩,aa,aa,aa,fun _ _=>.inr ⟨rfl,⟨_,bn rfl⟩,hbv⟩,dX (.inr ⟨rfl,⟨_,cF (p:=some (.int .i64 8)) (q:=none) (m:=none) (p':=some 8) (q':=none) (m':=none) rfl rfl rfl rfl rfl rfl rfl (eC (s0.buf (k:=3) rfl).view (a:=8) (by omega)).1⟩,BD⟩) (.inr ⟨rfl,⟨_,cF (p:=some (.int .i64 8)) (q:=none) (m:=none) (p':=some 8) (q':=none) (m':=none) rfl rfl rfl rfl rfl rfl rfl (eC (s0.buf (k:=3) rfl).view (a:=8) (by omega)).1⟩,BD⟩),aa,aa,aa,aa,aa,aa,aa,aa⟩,?_⟩
  exact FT hT rfl ((s.ae [2,0,0]).del 3) U I J vb hj ⟨rfl,rfl,aa⟩ (fun E' h' h0 e1 e2 s'=>⟨aa,_,vJ e1 e2,.inl ⟨h0,rfl,s'⟩⟩) (fun E' h' h0 e1 e2 s'=>⟨aa,_,vJ e1 e2,.inr ⟨h0,_,rfl,s'⟩⟩)
end
def bornE (n:Int)(c:Nat): bX→Nat
 | []=>c
 | e::l=>if e.1=n then e.2.2 else bornE n c l
def oE (n:Int)(z:V)(c:Nat): bX→bX
 | []=>[(n,z,c)]
 | e::l=>if e.1=n then e::l else e::oE n z c l
theorem RA {n:Int}{c:Nat}: ∀ {l:bX} {b:Nat},b≤c→fc c b l→b≤bornE n c l:=by
 intro l
 induction l with
 | nil=>intro b h _; exact h
 | cons e l J =>
  intro b h I
  simp only [bornE]
  by_cases he:e.1=n
  ·rw [aj he]; exact I.1
  ·rw [af he]
   have:=J (b:=e.2.2+1) I.2.1 I.2.2
   have:=I.1
   omega
theorem KZ {n:Int}{z:V}{c:Nat}: ∀ {l:bX},lookE n l=none→oE n z c l=l++[(n,z,c)]∧bornE n c l=c:=by
 intro l
 induction l with
 | nil=>intro _; exact ⟨rfl,rfl⟩
 | cons e l I =>
  intro h
  simp only [lookE] at h
  by_cases he:e.1=n
  ·rw [aj he] at h; cases h
  ·rw [af he] at h
   have g:=I h
   exact ⟨by simp only [oE,af he,g.1,fF],by simp only [bornE,af he,g.2]⟩
theorem UN {n:Int}{z u:V}{c:Nat}: ∀ {l:bX},lookE n l=some u→oE n z c l=l:=by
 intro l
 induction l with
 | nil=>intro h; cases h
 | cons e l I =>
  intro h
  simp only [lookE] at h
  by_cases he:e.1=n
  ·simp only [oE,aj he]
  ·rw [af he] at h
   simp only [oE,af he,I h]
theorem Pk {n:Int}{c:Nat}: ∀ {l:bX} {i j:Nat} {u:V},idxE n l i=some (j,u)→i≤j∧nth (l.map eB) (j-i)=some (.int .i64 n,u,bornE n c l):=by
 intro l
 induction l with
 | nil=>intro i j u h; cases h
 | cons e l I =>
  intro i j u h
  simp only [idxE] at h
  by_cases he:e.1=n
  ·rw [aj he] at h
   injection h with h; injection h with J U
   subst J; subst U
   refine ⟨aI _,?_⟩
   simp only [bornE,aj he,AP,bI,nth,eB,he]
   rfl
  ·rw [af he] at h
   obtain ⟨g1,g2⟩:=I h
   refine ⟨by omega,?_⟩
   simp only [bornE,af he,bI]
   rw [show j-i=(j-(i+1))+1 by omega]
   simpa [fV] using g2
theorem UO {n:Int}{z v:V}{c:Nat}: ∀ {l:bX} {b i:Nat},b≤c→fc c b l→∃j,findBorn ((oE n z c l).map eB) (bornE n c l:Int) i=some (i+j)∧setNth ((oE n z c l).map eB) j (fun e=>(e.1,v,e.2.2))=(jN n v c l).map eB:=by
 intro l
 induction l with
 | nil =>
  intro b i h _
  refine ⟨0,?_,rfl⟩
  simp only [oE,bornE,bI,List.map_nil,eB,findBorn,lU,ag,iY]
 | cons e l J =>
  intro b i h I
  by_cases he:e.1=n
  ·refine ⟨0,?_,?_⟩
   ·simp only [oE,bornE,aj he,bI,eB,findBorn,lU,ag,iY]
   ·simp only [oE,jN,aj he,bI]
    rfl
  ·obtain ⟨j,U,g2⟩:=J (b:=e.2.2+1) (i:=i+1) I.2.1 I.2.2
   have Sg:=RA (n:=n) (b:=e.2.2+1) I.2.1 I.2.2
   refine ⟨j+1,?_,?_⟩
   ·simp only [oE,bornE,af he,bI,findBorn]
    have:intBeq (((eB e).2.2:Nat):Int) (bornE n c l:Int)=false:=by rw [og]; exact ew (by show ¬((e.2.2:Nat):Int)=_; omega)
    rw [this,ay,U]
    congr 1; omega
   ·simp only [oE,jN,af he,bI,setNth]
    rw [show Nat.beq (j+1) 0=false from rfl,ay,tD,g2]
section
variable {P:Program} {h h':H} {S:List ax} {v z:V} {t kt et:TypeId} {k:IntKind} {id c j:Nat} {l:bX} {n:Int}
theorem Pm : ∀ {S:List ax} {j:Nat} {A:ax},getA S j=some A→setA S j A=S:=by
 intro S
 induction S with
 | nil=>intro j A h; cases h
 | cons B S I =>
  intro j A h
  cases j with
  | zero=>simp only [getA] at h; injection h with h; subst h; rfl
  | succ j=>simp only [getA] at h; simp only [setA,I h]
theorem Sat.entry (s:Sat h S)(J:getA S j=some (fG id l c))(hu:P.underlying t=some (.map kt et))(hk:P.underlying kt=some (.int k))(hz:zeroT P et=some z):
  ∃w h',mapEntryV P h t (.map id) (.int .i64 n)=some (.bE [w,.int .i64 (bornE n c l:Int)],h')∧Sat h' (setA S j (fG id (oE n z c l) (clkE n c l))):=by
 have hg:=s.row J
 simp only [mapEntryV,hu,hk,hz,hg,keyBeq,dK,ag,rM]
 have I:=qa (n:=n) l 0
 cases U:idxE n l 0 with
 | none =>
  rw [U] at I
  have I:lookE n l=none:=I.symm
  refine ⟨z,h.put id (some (.map ((oE n z c l).map eB) (clkE n c l))),?_,s.put J⟩
  rw [(KZ (z:=z) (c:=c) I).1,(KZ (z:=z) (c:=c) I).2,clkE,I,AK]
  rfl
 | some q =>
  obtain ⟨i,u⟩:=q
  rw [U] at I
  have I:lookE n l=some u:=I.symm
  have hb:=(Pk (c:=c) U).2
  rw [kH] at hb
  refine ⟨u,h,?_,?_⟩
  ·simp only [hb]
  ·rw [UN I,clkE,I]
   simp only
   rw [Pm J]
   exact s
theorem Sat.entryStore (s:Sat h S)(I:getA S j=some (fG id (oE n z c l) (clkE n c l)))(U:fc c 0 l):
  ∃h',entryStoreV h (.map id) (.int .i64 (bornE n c l:Int)) v=some h'∧Sat h' (setA S j (fG id (jN n v c l) (clkE n c l))):=by
 have hg:=s.row I
 obtain ⟨i,J,g2⟩:=UO (n:=n) (z:=z) (v:=v) (i:=0) (eM c) U
 refine ⟨h.put id (some (.map ((jN n v c l).map eB) (clkE n c l))),?_,s.put I⟩
 rw [dV] at J
 simp only [entryStoreV,hg,J,g2]
end
theorem OpR.mapEntry {C:dF}{E:List (Nat×V)}{h:H}{o:Oper}{t:TypeId}{x y:Operand}{a b v:V}{h₁:H}(I:o.op=.mapEntry t x y)(U:lookO E x=some a)(hy:lookO E y=some b)
 (ho:mapEntryV C.P h t a b=some (v,h₁)): OpR C E h o fun w h'=>w=v∧h'=h₁ :=
 ⟨v,h₁,⟨rfl,rfl⟩,fun env J=>⟨0,by simp only [evOp,I,bP J U,bP J hy,ho]⟩⟩
theorem OpR.entryStore {C:dF}{E:List (Nat×V)}{h:H}{o:Oper}{t:TypeId}{x y z:Operand}{a b v:V}{S':List ax}(I:o.op=.entryStore t x y z)(U:lookO E x=some a)(hy:lookO E y=some b)(hz:lookO E z=some v)
 (ho:∃h₁,entryStoreV h a b v=some h₁∧Sat h₁ S'): OpR C E h o fun _ h₁=>Sat h₁ S':=by
 obtain ⟨h₁,e1,e2⟩:=ho
 exact ⟨cz,h₁,e2,fun env J=>⟨0,by simp only [evOp,I,bP J U,bP J hy,bP J hz,e1,rT]⟩⟩
abbrev IA := List (Int×List Nat)
def bufsA : bX→IA→ax
 | [],[]=>.pu True
 | e::l,x::m=>star [.pu (e.1=x.1),bK e.2.1 x.2,bufsA l m]
 | _,_=>.pu False
def qP (n:Int): bX→IA→ax
 | [],[]=>.pu True
 | e::l,x::m=>if e.1=n then star [.pu (e.1=x.1),bufsA l m] else star [.pu (e.1=x.1),bK e.2.1 x.2,qP n l m]
 | _,_=>.pu False
section
variable {h:H} {n:Int} {u:V} {x:List Nat} {c:Nat}
theorem Pn : ∀ {l:bX} {m:IA} {S:List ax},lookE n l=none→Sat h (bufsA l m::S)→lookL n m=none∧Sat h (qP n l m::S):=by
 intro l
 induction l with
 | nil=>intro m S _ s; cases m with
  | nil=>exact ⟨rfl,s⟩
  | cons x m=>exact (eR.1 s).1.elim
 | cons e l U=>intro m S I s; cases m with
  | nil=>exact (eR.1 s).1.elim
  | cons x m =>
   obtain ⟨J,s⟩:=eR.1 (en.1 s)
   simp only [lookE] at I
   by_cases he:e.1=n
   ·rw [aj he] at I; cases I
   ·rw [af he] at I
    obtain ⟨g1,g2⟩:=U (S:=bK e.2.1 x.2::S) I (s.ae [1])
    refine ⟨?_,?_⟩
    ·simp only [lookL,←J,af he,g1]
    ·simp only [qP,af he]
     exact en.2 (eR.2 ⟨J,g2.ae [1]⟩)
theorem Po : ∀ {l:bX} {m:IA} {S:List ax},lookE n l=some u→Sat h (bufsA l m::S)→∃x,lookL n m=some x∧Sat h (bK u x::qP n l m::S):=by
 intro l
 induction l with
 | nil=>intro m S I s; cases I
 | cons e l U=>intro m S I s; cases m with
  | nil=>exact (eR.1 s).1.elim
  | cons x m =>
   obtain ⟨J,s⟩:=eR.1 (en.1 s)
   simp only [lookE] at I
   by_cases he:e.1=n
   ·rw [aj he] at I
    injection I with I
    subst I
    refine ⟨x.2,by simp only [lookL,←J,aj he],?_⟩
    simp only [qP,aj he]
    have s2:Sat h (star [.pu (e.1=x.1),bufsA l m]::bK e.2.1 x.2::S):=en.2 (eR.2 ⟨J,s.ae [1]⟩)
    exact s2.ae [1]
   ·rw [af he] at I
    obtain ⟨y,g1,g2⟩:=U (S:=bK e.2.1 x.2::S) I (s.ae [1])
    refine ⟨y,by simp only [lookL,←J,af he,g1],?_⟩
    simp only [qP,af he]
    have s2:Sat h (star [.pu (e.1=x.1),bK e.2.1 x.2,qP n l m]::bK u y::S):=en.2 (eR.2 ⟨J,g2.ae [2,1]⟩)
    exact s2.ae [1]
theorem RB : ∀ {l:bX} {m:IA} {S:List ax},Sat h (bK u x::qP n l m::S)→Sat h (bufsA (jN n u c l) (cN n x m)::S):=by
 intro l
 induction l with
 | nil=>intro m S s; cases m with
  | nil=>exact en.2 (eR.2 ⟨rfl,s⟩)
  | cons y m=>exact (eR.1 s.drop).1.elim
 | cons e l J=>intro m S s; cases m with
  | nil=>exact (eR.1 s.drop).1.elim
  | cons y m =>
   by_cases he:e.1=n
   ·simp only [qP,aj he] at s
    obtain ⟨I,s⟩:=eR.1 (en.1 (s.ae [1]))
    simp only [jN,cN,←I,aj he]
    exact en.2 (eR.2 ⟨he,(s.ae [1,0])⟩)
   ·simp only [qP,af he] at s
    obtain ⟨I,s⟩:=eR.1 (en.1 (s.ae [1]))
    simp only [jN,cN,←I,af he]
    have s2:=J (S:=bK e.2.1 y.2::S) (s.ae [2,1])
    exact en.2 (eR.2 ⟨I,s2.ae [1]⟩)
theorem JP : ∀ {l:bX} {m:IA} {S:List ax},Sat h (bufsA l m::S)→Sat h (eD (fun v b=>.ct v b) l m::S):=by
 intro l
 induction l with
 | nil=>intro m S s; cases m with
  | nil=>exact s
  | cons x m=>exact (eR.1 s).1.elim
 | cons e l I=>intro m S s; cases m with
  | nil=>exact (eR.1 s).1.elim
  | cons x m =>
   obtain ⟨J,s⟩:=eR.1 (en.1 s)
   have s2:=I (S:=Bz e.2.1 x.2::S) (s.fN.ae [1])
   have U:=(s2.ae [1]).two (C:=eD (fun v b=>.ct v b) (e::l) (x::m)) (aH.ct _ _) (aH.Hr (fun _ _=>aH.ct _ _) _ _) fun a b h1 h2=>⟨⟨J,h1⟩,h2⟩
   exact U
end
end Go.Proofs.YtconhghphklfjaaGreat.Am
