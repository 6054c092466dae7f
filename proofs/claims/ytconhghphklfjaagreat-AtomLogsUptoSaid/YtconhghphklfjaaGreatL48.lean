/- After a crash the log has the records of the groups that are there and no others, with their numbers and data; the conditions are those of the given statement, for arguments that a machine can hold. Part 48 of 54. -/
import Derived.Test.YtconhghphklfjaaGreatL47
namespace Go.Proofs.YtconhghphklfjaaGreat.Am
open Go
structure b9 where
 kd:Nat
 tx:Nat
 pv:Nat
 nx:Nat
 data:List Nat
 aA:List bV
def b9.bd (r:b9): List Nat:=cy r.kd r.tx r.pv r.nx r.data r.aA
def b9.len (r:b9): Nat:=8+r.bd.length
structure b9.Ok (r:b9): Prop where
 good:cx r.kd r.aA=true
 rd:qv r.tx r.pv r.nx r.data r.aA
 len:r.bd.length≤1048576
theorem b9.Ok.kd {r:b9}(h:r.Ok): r.kd<256:=by
 have:=h.good
 simp [cx] at this
 omega
def logB : Nat→List b9→List Nat
 | _,[]=>[]
 | n,r::l=>eW n r.bd++logB (n+r.len) l
def fF : Nat→List b9→List Nat
 | _,[]=>[]
 | a,r::l=>a::fF (a+r.len) l
def uF (j:List Nat): Prop:=j.length<8∨j.length-8<leN (j.take 4)
theorem Jg {x y:List Nat}{a b:Nat}(I:x.length=a): ((x++y).take (a+b)).drop a=y.take b:=by
 subst I
 rw [List.take_append,List.take_of_length_le (by omega),List.drop_left' rfl]
 congr 1; omega
section
variable {told:Nat→Option (List V→H→Option (V×H))} {h:H} {S:List ah} {X:ah} {v:V} {l:List Nat}
theorem Ew (U:W told){pre j:List Nat}{n a:Nat}(hj:uF j)(ha:pre.length=a)(J:l=pre++j)(x_:l.length≤1073741824)(s:Sat h (X::S))(I:bU X (bZ v l)):
  Call ⟨Tryz.prog,told⟩ 57 [v,.int .i64 (a:Int),.int .u64 (n:Int)] h fun r h'=>r=.aW [.agg (eC 0 0 0 0 .aH .aH),.int .i64 0,.int .i64 4]∧Sat h' (X::S):=by
 have hlen:l.length=a+j.length:=by rw [J,List.length_append,ha]
 have Uk:=aG (P:=Tryz.prog) (h:=h) Tryz.underlying32 (s.ax (k:=0) rfl I)
 have m1:(l.take (a+4)).drop a=j.take 4:=by rw [J]; exact Jg ha
 refine Call.of_wp (U.free _ rfl) Tryz.func57 rfl rfl (zg rfl ?_)
 refine ae.bO s rfl rfl rfl (bK jP) (fun p6 h s => ?_)
 dsimp only [V.cells,List.length_cons,List.length_nil,Nat.reduceAdd] at s
 refine za rfl (za rfl (zv (zw (zg rfl (zm rfl (ae.aE rfl rfl rfl (af rfl rfl aX) (by simp) ?_))))))
 refine zm rfl (zm rfl (zm rfl (zo rfl (aL rfl rfl rfl (aG Tryz.underlying32 (s.ax (k:=1) rfl I))) (ae.aE rfl rfl rfl (af rfl rfl dS) (by simp; omega) ?_))))
 refine zp rfl (zv (zj rfl (WP.skip (zw (zg rfl (zm rfl (zo rfl (aL rfl rfl rfl (aG Tryz.underlying32 (s.ax (k:=1) rfl I))) (zm rfl (zb rfl (by exact lR (aF (by omega) (by omega))) ?_)))))))))
 by_cases h8:j.length<8
 ·skip
  refine ae.aR rfl rfl rfl (af rfl rfl aX) (by simp; omega) ?_
  refine zv (zi rfl (zg rfl (zo rfl (bW rfl (by rw [rJ]; rfl)) ?_)))
  refine ae.bn rfl rfl rfl rfl rfl (by exact s.eN (j:=0) rfl dK rfl rfl) (fun h s => ?_)
  dsimp only [V.cells,setA] at s
  refine za rfl (za rfl (zv ?_))
  refine WP.ret ⟨trivial,_,qq rfl (s.dF (k:=0) rfl jr dK) rfl rfl,?_⟩
  exact ⟨rfl,s.drop⟩
 have ee:j.length-8<leN (j.take 4):=by rcases hj with h | h; exact absurd h h8; exact h
 have Wp:leN (j.take 4)<4294967296:=by
  have:=rT (j.take 4) (fun b hb=>(s.ax (k:=1) rfl I).1 b (by rw [J]; exact List.mem_append.2 (.inr (List.mem_of_mem_take hb))))
  rwa [List.length_take,Nat.min_eq_left (by omega)] at this
 refine ae.aE rfl rfl rfl (af rfl rfl aX) (by simp; omega) ?_
 refine zv (zj rfl (WP.skip (zg rfl (zm rfl (zm rfl (zm rfl (zb rfl (by exact bl (aF (by omega) (by omega))) ?_)))))))
 refine zo rfl (bM (p:=some (.int .i64 (a:Int))) (q:=some (.int .i64 ((a:Int)+4))) (m:=none) (p':=some a) (q':=some (a+4)) (m':=none) rfl rfl rfl rfl (by rw [dN (by omega)]; rfl) (by rw [dN (by omega)]; congr 2 <;> omega) rfl (fq (s.ax (k:=1) rfl I) (a:=a) (b:=a+4) (by omega) (by omega)).1) ?_
 refine ae.call rfl rfl rfl rfl rfl rfl rfl (kI U s (k:=1) rfl (iP I (a:=a) (b:=a+4) (by omega) (by omega)) (by rw [m1,List.length_take]; omega)) ?_
 rintro r h' ⟨rfl,rfl⟩
 rw [m1]
 refine za rfl (zv (zw (zg rfl (zm rfl ?_))))
 by_cases Ax:1048576<leN (j.take 4)
 ·skip
  refine ae.aR rfl rfl rfl (af rfl rfl dS) (by simp; omega) ?_
  refine zm rfl (zx rfl (zx rfl (zx rfl (zx rfl (zx rfl (zx rfl (zx rfl (zx rfl (zq rfl (zv (zi rfl (zg rfl (zo rfl (bW rfl (by rw [rJ]; rfl)) ?_)))))))))))))
  refine ae.bn rfl rfl rfl rfl rfl (by exact s.eN (j:=0) rfl dK rfl rfl) (fun h s => ?_)
  dsimp only [V.cells,setA] at s
  refine za rfl (za rfl (zv ?_))
  refine WP.ret ⟨trivial,_,qq rfl (s.dF (k:=0) rfl jr dK) rfl rfl,?_⟩
  exact ⟨rfl,s.drop⟩
 refine ae.aE rfl rfl rfl (af rfl rfl dS) (by simp; omega) ?_
 refine zm rfl (zm rfl (zo rfl (bz rfl (by exact gC Tryz.underlying35 Tryz.underlying3 (aF (by omega) (by omega)))) ?_))
 refine zm rfl (zo rfl (aL rfl rfl rfl (aG Tryz.underlying32 (s.ax (k:=1) rfl I))) (zm rfl (zb rfl (by exact lR (aF (by omega) (by omega))) ?_)))
 refine zb rfl (by exact lR (aF (by omega) (by omega))) ?_
 refine ae.aR rfl rfl rfl (af rfl rfl dS) (by simp; omega) ?_
 refine zp rfl (zv (zi rfl (zg rfl (zo rfl (bW rfl (by rw [rJ]; rfl)) ?_))))
 refine ae.bn rfl rfl rfl rfl rfl (by exact s.eN (j:=0) rfl dK rfl rfl) (fun h s => ?_)
 dsimp only [V.cells,setA] at s
 refine za rfl (za rfl (zv ?_))
 refine WP.ret ⟨trivial,_,qq rfl (s.dF (k:=0) rfl jr dK) rfl rfl,?_⟩
 exact ⟨rfl,s.drop⟩
end
end Go.Proofs.YtconhghphklfjaaGreat.Am
namespace Go.Proofs.YtconhghphklfjaaGreat.Am
open Go
def Dk.oJ (δ:Dk)(n:Nat): Int×Dk :=
 if δ.dead=true then (9,δ) else if ¬n≤δ.log.length then (1,δ) else if δ.aJ=0 then (9,δ.die) else (0,{ δ.cO with log:=δ.log.take n,aT:=n })
def Dk.dR (δ:Dk)(n:Nat): Int×Dk:=if n<δ.log.length then δ.oJ n else (0,δ)
def Dk.dw (δ:Dk)(n:Nat): Int×Dk :=
 if (δ.dR n).1≠0 then δ.dR n else if (δ.dR n).2.aT<n then (δ.dR n).2.ct else (0,(δ.dR n).2)
def fy (base aK:Nat)(rs:List b9): Lg:={ base:=base,b:=logB base rs,bE:=fF 0 rs,forced:=(logB base rs).length,check:=aK }
theorem mC (n:Nat)(b:List Nat): (eW n b).length=8+b.length:=by rw [nY]
theorem Ca {h h':H}{c:Nat}{v:V}(I:c<1073741824)(he:makeSliceV Tryz.prog h 32 (.int .i64 0) (.int .i64 (c:Int))=some (v,h')): v=.sl h.next 0 0 (.exact c):=by
 obtain ⟨i,hi,i1,i2⟩:=o5
 simp only [makeSliceV,Tryz.underlying32,hi,lQ,i1,i2,V.cells,List.length_cons,List.length_nil,Int.toNat_natCast,Nat.mul_one] at he
 rw [show (decide ((0:Int)≤0)&&decide ((0:Int)≤(c:Int))&&decide ((c:Int)<1073741824)&&Nat.ble 1 4096&&Nat.beq (0+1) 1&&Nat.ble 1 1)=true by simp; omega,cond_true] at he
 exact (congrArg Prod.fst (Option.some.inj he)).symm
theorem A6 {h h':H}{id c n:Nat}{x v:V}{m:List Nat}(J:View h x m)(I:n+m.length≤c)(he:appendV Tryz.prog h #[32,32] (.sl id 0 n (.exact c)) x=some (v,h')): v=.sl id 0 (n+m.length) (.exact c):=by
 obtain ⟨i,hi,i1,i2⟩:=o5
 unfold appendV at he
 simp only [Tryz.underlying32,hi,lQ,i1,i2,V.cells,List.length_cons,List.length_nil,vj J] at he
 rw [show (Nat.ble 1 1&&Nat.ble 1 4096&&Nat.beq (0+1) 1)=true from rfl,cond_true] at he
 cases hm:Nat.beq m.length 0 with
 | true =>
  rw [hm,cond_true] at he
  rw [beq_iff.1 hm]; exact (congrArg Prod.fst (Option.some.inj he)).symm
 | false =>
  rw [hm,cond_false,ay.2 I,cond_true] at he
  split at he
  ·exact (congrArg Prod.fst (Option.some.inj he)).symm
  ·cases he
theorem G6 {id c n:Nat}{l:List Nat}(hn:n≤l.length): bU (a_ (.sl id 0 l.length (.exact c)) l) (a_ (.sl id 0 n (.exact c)) (l.take n)):=by
 intro m r ⟨h1,h2⟩
 have U:(l.take n).length=n:=by rw [List.length_take]; omega
 refine ⟨fun b hb=>h1 b (List.mem_of_mem_take hb),.inr (.inl ?_)⟩
 rcases h2 with ⟨e,_⟩ | ⟨J,cs,c',e,hg,hc⟩ | ⟨J,e,_⟩
 ·cases e
 ·injection e with e1 _ _ I
  injection I with I
  subst e1; subst I
  refine ⟨_,ofBytes (l.drop n)++cs,_,by rw [U],?_,?_⟩
  ·rw [←List.append_assoc,←mc,List.take_append_drop]; exact hg
  ·rw [List.length_append,cu,List.length_drop,U]; omega
 ·injection e with _ _ _ I; cases I
section
variable {told:Nat→Option (List V→H→Option (V×H))} {h:H} {S:List ah} {X:ah} {p:Nat} {δ:Dk}
theorem Cb (hT:W told){x:V}{l:List Nat}(s:Sat h (X::S))(J:bU X (bZ x l))(hl:l.length<1073741824):
  Call ⟨Tryz.prog,told⟩ 65 [x] h fun v h'=>∃id,v=.sl id 0 l.length (.exact l.length)∧Sat h' (a_ v l::X::S):=by
 refine Call.of_wp (hT.free _ rfl) Tryz.func65 rfl rfl (zg rfl (za rfl (zv (zg rfl (zm rfl (zo rfl (aL rfl rfl rfl (aG Tryz.underlying32 (s.ax (k:=0) rfl J))) ?_))))))
 obtain ⟨v1,h1,e1,s1⟩:=xE s hl
 have U:=Ca hl e1
 subst U
 refine ae.any rfl rfl rfl (OpR.of (R:=fun v h'=>v=.sl h.next 0 0 (.exact l.length)∧h'=h1) (ow rfl rfl e1) ⟨rfl,rfl⟩) ?_
 rintro v h' ⟨rfl,rfl⟩
 refine zm rfl ?_
 obtain ⟨v2,h2,e2,s2⟩:=vz s1 J (by simp; omega)
 have I:=A6 (s1.ax (k:=1) rfl J) (by omega) e2
 rw [Nat.zero_add] at I
 subst I
 refine ae.any rfl rfl rfl (OpR.of (R:=fun v h'=>v=.sl h.next 0 l.length (.exact l.length)∧h'=h2) (j_ rfl rfl e2) ⟨rfl,rfl⟩) ?_
 rintro v h' ⟨rfl,rfl⟩
 refine za rfl (zv ?_)
 refine WP.ret ⟨trivial,_,rfl,?_⟩
 exact ⟨_,rfl,s2⟩
theorem Ey (I:W told)(s:Sat h (az p δ::S))(J:δ.dead=false)(U:δ.log.length<1073741824): Call ⟨Tryz.prog,told⟩ 103 [.ptr p 0] h fun v h' =>
  ∃id,v=.aW [.sl id 0 δ.log.length (.exact δ.log.length),.int .i64 0]∧Sat h' (a_ (.sl id 0 δ.log.length (.exact δ.log.length)) δ.log::az p δ::S):=by
 obtain ⟨pg,wt,nw,lg,mk,tn,tl,ops,s⟩:=aQ.1 s
 refine Call.of_wp (I.free _ rfl) Tryz.func103 rfl rfl (zg rfl (za rfl (za rfl (zv (zw (zg rfl (zm rfl (zn rfl (zf rfl (gI _ _) (ae.aE rfl rfl rfl ((aI rfl (s.ld (k:=0) rfl gU rfl))) (J) (zv (zj rfl (WP.skip (zg rfl (zm rfl (zn rfl (zf rfl (gH _ _) (zl rfl (by exact s.ld (k:=0) rfl bg rfl) ?_))))))))))))))))))
 refine ae.call rfl rfl rfl rfl rfl rfl rfl (Cb I (s.aa [4]) (bk _ _) U) ?_
 rintro v h ⟨id,rfl,s⟩
 dsimp only [lI,ai,bringA] at s
 refine za rfl (za rfl (zv ?_))
 refine WP.ret ⟨trivial,_,rfl,?_⟩
 exact ⟨id,rfl,(aQ.2 ⟨pg,wt,nw,lg,mk,tn,tl,ops,s.aa [2,2,2,2,1,1,1,1,0]⟩).aa [1]⟩
end
section
variable {told:Nat→Option (List V→H→Option (V×H))} {h:H} {S:List ah} {X:ah} {v b pv:V} {l j:List Nat} {q p base aK n:Nat} {δ:Dk}
theorem Se {id m n c:Nat}: slR (.sl id 0 m (.exact c)) 0 n=.sl id 0 n (.exact c):=by
 simp only [slR,Nat.zero_mul,Nat.add_zero,Nat.sub_zero]
 cases Nat.beq c 0 <;> rfl
theorem Dk.Ok.dR {δ:Dk}{n:Nat}(h:δ.Ok): (δ.dR n).2.Ok:=by
 have J:=h.len
 unfold Dk.dR Dk.oJ
 split
 ·split
  ·exact h
  ·split
   ·exact h
   ·split
    ·exact h.die
    ·have I:=h.cO
     exact ⟨I.aJ,by show (δ.log.take n).length≤_; rw [List.length_take]; omega,I.room,I.now,I.aj,by show n≤(δ.log.take n).length; rw [List.length_take]; omega,I.many⟩
 ·exact h
theorem Dk.Ok.dw {δ:Dk}{n:Nat}(h:δ.Ok): (δ.dw n).2.Ok:=by
 unfold Dk.dw
 split
 ·exact h.dR
 ·split
  ·exact h.dR.ct
  ·exact h.dR
theorem Og (hT:W told)(s:Sat h (az p δ::S))(J:δ.Ok): Call ⟨Tryz.prog,told⟩ 104 [.ptr p 0,.int .i64 (n:Int)] h fun v h'=>v=.int .i64 (δ.oJ n).1∧Sat h' (az p (δ.oJ n).2::S):=by
 have hl:=J.len
 refine (Is hT s J.aJ (by omega)).mono fun v h' hr => ?_
 unfold Dk.oJ
 rcases hr with ⟨I,rfl,s⟩ | ⟨I,h1,rfl,s⟩ | ⟨I,h1,h2,U,rfl,s⟩ | ⟨I,h1,h2,U,rfl,s⟩
 ·rw [if_pos I]; exact ⟨rfl,s⟩
 ·rw [if_neg (by rw [I]; decide),if_pos (by omega)]; exact ⟨rfl,s⟩
 ·rw [if_neg (by rw [I]; decide),if_neg (by omega),if_pos U]; exact ⟨rfl,s⟩
 ·rw [if_neg (by rw [I]; decide),if_neg (by omega),if_neg U]; exact ⟨rfl,s⟩
theorem Jh (U:WR told){r:b9}{a:Nat}{pre rest:List Nat}(I:r.Ok)(ha:pre.length=a)(hl:l=pre++(eW n r.bd++rest))(J:l.length≤1073741824)(s:Sat h (X::S))(hX:bU X (bZ v l)):
  Call ⟨Tryz.prog,told⟩ 57 [v,.int .i64 (a:Int),.int .u64 (n:Int)] h fun x h'=>∃dt ch cs,x=.aW [.agg (eC r.kd r.tx r.pv r.nx dt ch),.int .i64 ((a+r.len:Nat):Int),.int .i64 0]∧Sat h' (X::a_ dt r.data::.arr 4 ch cs::bP cs r.aA::S):=by
 refine (A1 U I.good I.kd I.rd rfl I.len ha hl J s hX).mono fun x h' hx => ?_
 have e:a+r.len=a+8+(cy r.kd r.tx r.pv r.nx r.data r.aA).length:=by rw [b9.len,b9.bd]; omega
 rw [e]
 exact hx
theorem C7 {kd n e:Int}{tx pv nx:Nat}{dt ch:V}(I:dt.beq dt=true)(J:ch.beq ch=true): (V.aW [.agg (eC kd tx pv nx dt ch),.int .i64 n,.int .i64 e]).beq (V.aW [.agg (eC kd tx pv nx dt ch),.int .i64 n,.int .i64 e])=true:=by
 simp only [V.beq,V.beqL,eC,I,J,ie,cE,Bool.and_self,cond_true]
noncomputable def Uy : Code:=cn [1,1,1,1,1,1,1,0,0,0] ((Tryz.f58.body).getD .skip)
theorem Ez (hT:WR told)(x_:l.length≤16777216)(qb:base+l.length≤1099511627776)(hj:uF j): ∀(rs:List b9) (a:Nat) (pre st:List Nat) (U:V) (h:H) (E:List (Nat×V)) (Q:Ex→List (Nat×V)→H→Prop),
  (∀r∈rs,r.Ok)→l=pre++(logB (base+a) rs++j)→pre.length=a→st.length≤a→Sat h (pt q (.cells 6 (mL p base b U 0 aK) false)::a_ b l::.arr 1 U (gz st)::S) →
  Has E [(0,pv),(6,.ptr q 0),(7,.int .i64 (a:Int))] →
  (∀J h' I,Has J [(0,pv),(6,.ptr q 0),(7,.int .i64 ((a+(logB (base+a) rs).length:Nat):Int))]→Sat h' (pt q (.cells 6 (mL p base b I 0 aK) false)::a_ b l::.arr 1 I (gz (st++fF a rs))::S)→Q (.exit 1) J h') →
  WP ⟨Tryz.prog,told⟩ 134 (.loop Uy) E h Q:=by
 have hW:=hT.w
 intro rs
 induction rs with
 | nil =>
  intro a pre st U h E Q _ hl ha _ s hE hq
  have hq:∀J h',Has J [(0,pv),(6,.ptr q 0),(7,.int .i64 (a:Int))]→Sat h' (pt q (.cells 6 (mL p base b U 0 aK) false)::a_ b l::.arr 1 U (gz st)::S)→Q (.exit 1) J h':=fun J h' h1 h2=>hq J h' U h1 (by rw [fF,List.append_nil]; exact h2)
  have hlen:l.length=a+j.length:=by rw [hl,logB,List.nil_append,List.length_append,ha]
  refine WP.loop (WP.has hE (zw (zg rfl (zm rfl (zm rfl (zn rfl (zf rfl (cP _ _) (zl rfl (by exact s.ld (k:=0) rfl bg rfl) ?_))))))))
  refine zo rfl (aL rfl rfl rfl (by exact aG Tryz.underlying32 (s.ax (k:=1) rfl (bk _ _)))) ?_
  by_cases hz:j.length=0
  ·skip
   refine ae.aE rfl rfl rfl (af rfl rfl aX) (by simp; omega) ?_
   refine zv (zj rfl (WP.exit ?_))
   exact hq _ _ ⟨rfl,rfl,rfl,trivial⟩ s
  ·skip
   refine ae.aR rfl rfl rfl (af rfl rfl aX) (by simp; omega) ?_
   refine zv (zi rfl (WP.skip (WP.block (zw ?_))))
   have s0:=s
   have Qu:=cg (s.buf (k:=1) rfl).view
   refine WP.drawn [none,none,none,none,none,none,none,none,none,none,none,none,none,some (1,2),some (1,2),some (1,3),some (1,3),none,none,none,none] rfl (by kernel_rfl) (by kernel_rfl) ?_
   refine zM rfl (zN rfl (zF rfl (cP _ _) (zL rfl (by exact s.ld (k:=0) rfl bg rfl) ?_)))
   refine zM rfl (zM rfl (zN rfl (zF rfl (iE _ _) (zL rfl (by exact s.ld (k:=0) rfl gP rfl) ?_))))
   refine zM rfl (au.op rfl rfl rfl (by simp only [isEff,Tryz.underlying35]) (bz rfl (by exact gC Tryz.underlying3 Tryz.underlying35 (dM (by omega) (by omega)))) ?_)
   refine zO rfl (af rfl rfl (by exact bl (dM (by omega) (by omega)))) ?_
   refine au.any rfl rfl rfl rfl (OpR.call rfl rfl rfl rfl (Ew (n:=base+a) (a:=a) hW hj ha hl (by omega) (s.aa [1]) (bk _ _))) ?_
   rintro x h ⟨rfl,s⟩
   dsimp only [mL,ai,bringA] at s
   have s1:=s
   have Oh:=C7 (kd:=0) (tx:=0) (pv:=0) (nx:=0) (dt:=.aH) (ch:=.aH) (n:=0) (e:=4) rfl rfl
   have AS:=sX (kd:=0) (tx:=0) (pv:=0) (nx:=0) (dt:=.aH) (ch:=.aH) rfl rfl
   refine zM rfl (zO rfl (bL rfl rfl) (zO rfl (bL rfl rfl) (zO rfl (bL rfl rfl) (au.any rfl rfl rfl rfl (OpR.bO s (bK jP)) ?_))))
   rintro v h ⟨p8,rfl,s⟩
   dsimp only [V.cells,List.length_cons,List.length_nil,Nat.reduceAdd] at s
   have s2:=s
   refine au.fI rfl rfl rfl (OpR.bn rfl rfl rfl (s.eN (j:=0) rfl dK rfl rfl)) ?_
   rintro v h ⟨rfl,s⟩
   dsimp only [setA] at s
   refine zA rfl (zA rfl ?_)
   refine au.nil ⟨⟨trivial,trivial,trivial,trivial,trivial,trivial,trivial,trivial,trivial,trivial,trivial,trivial,trivial,fun _ _=>.inr ⟨rfl,⟨_,aV rfl⟩,Oh⟩,fun _ _=>.inr ⟨rfl,⟨_,bL rfl rfl⟩,AS⟩,fun _ _=>.inr ⟨rfl,⟨_,bL rfl rfl⟩,aU _ rfl⟩,fun _ _=>.inr ⟨rfl,⟨_,bL rfl rfl⟩,aU _ rfl⟩,trivial,trivial,trivial,trivial,trivial⟩,?_⟩
   refine zw (zg rfl (zm rfl (ae.aR rfl rfl rfl (af rfl rfl aN) (rfl) (zv (zi rfl (WP.exit ?_))))))
   exact hq _ _ ⟨rfl,rfl,rfl,trivial⟩ ((s.del 0).aa [1,0,0])
 | cons r rs ih =>
  intro a pre st U h E Q om hl ha fK s hE hq
  have hr:=om r List.mem_cons_self
  have xT:(eW (base+a) r.bd).length=r.len:=by rw [mC]; rfl
  have hlen:l.length=a+(r.len+((logB (base+a+r.len) rs).length+j.length)):=by rw [hl,logB]; simp only [List.length_append,ha,xT]; omega
  have Wq:8≤r.len:=by rw [b9.len]; omega
  refine WP.loop (WP.has hE (zw (zg rfl (zm rfl (zm rfl (zn rfl (zf rfl (cP _ _) (zl rfl (by exact s.ld (k:=0) rfl bg rfl) ?_))))))))
  refine zo rfl (aL rfl rfl rfl (by exact aG Tryz.underlying32 (s.ax (k:=1) rfl (bk _ _)))) ?_
  refine ae.aR rfl rfl rfl (af rfl rfl aX) (by simp; omega) ?_
  refine zv (zi rfl (WP.skip (WP.block (zw ?_))))
  have s0:=s
  have Qu:=cg (s.buf (k:=1) rfl).view
  refine WP.drawn [none,none,none,none,none,none,none,none,none,none,none,none,none,some (1,2),some (1,2),some (1,3),some (1,3),none,none,none,none] rfl (by kernel_rfl) (by kernel_rfl) ?_
  refine zM rfl (zN rfl (zF rfl (cP _ _) (zL rfl (by exact s.ld (k:=0) rfl bg rfl) ?_)))
  refine zM rfl (zM rfl (zN rfl (zF rfl (iE _ _) (zL rfl (by exact s.ld (k:=0) rfl gP rfl) ?_))))
  refine zM rfl (au.op rfl rfl rfl (by simp only [isEff,Tryz.underlying35]) (bz rfl (by exact gC Tryz.underlying3 Tryz.underlying35 (dM (by omega) (by omega)))) ?_)
  refine zO rfl (af rfl rfl (by exact bl (dM (by omega) (by omega)))) ?_
  refine au.any rfl rfl rfl rfl (OpR.call rfl rfl rfl rfl (Jh (r:=r) (n:=base+a) (a:=a) (rest:=logB (base+a+r.len) rs++j) hT hr ha (by rw [hl,logB,List.append_assoc]) (by omega) (s.aa [1]) (bk _ _))) ?_
  rintro x h ⟨dt,ch,cs,rfl,s⟩
  dsimp only [mL,ai,bringA] at s
  have lz:=(s.buf (k:=1) rfl).view.cells
  have j5:=s.gx (j:=2) rfl
  have xD:=cg (s.buf (k:=1) rfl).view
  have fK:[V.int .i64 (r.kd:Int),V.int .u64 (r.tx:Int),V.int .u64 (r.pv:Int),V.int .u64 (r.nx:Int),dt,ch].all storable=true:=h_ lz.2 j5.2.1
  have Oh:=C7 (kd:=r.kd) (tx:=r.tx) (pv:=r.pv) (nx:=r.nx) (n:=((a+r.len:Nat):Int)) (e:=0) xD j5.2.2
  have AS:=sX (kd:=r.kd) (tx:=r.tx) (pv:=r.pv) (nx:=r.nx) xD j5.2.2
  have s1:=s
  refine zM rfl (zO rfl (bL rfl rfl) (zO rfl (bL rfl rfl) (zO rfl (bL rfl rfl) (au.any rfl rfl rfl rfl (OpR.bO s (bK jP)) ?_))))
  rintro v h ⟨p8,rfl,s⟩
  dsimp only [V.cells,List.length_cons,List.length_nil,Nat.reduceAdd] at s
  have s2:=s
  refine au.fI rfl rfl rfl (OpR.bn rfl rfl rfl (s.eN (j:=0) rfl dK rfl fK)) ?_
  rintro v h ⟨rfl,s⟩
  dsimp only [setA] at s
  refine zA rfl (zA rfl ?_)
  refine au.nil ⟨⟨trivial,trivial,trivial,trivial,trivial,trivial,trivial,trivial,trivial,trivial,trivial,trivial,trivial,fun _ _=>.inr ⟨rfl,⟨_,aV rfl⟩,Oh⟩,fun _ _=>.inr ⟨rfl,⟨_,bL rfl rfl⟩,AS⟩,fun _ _=>.inr ⟨rfl,⟨_,bL rfl rfl⟩,aU _ rfl⟩,fun _ _=>.inr ⟨rfl,⟨_,bL rfl rfl⟩,aU _ rfl⟩,trivial,trivial,trivial,trivial,trivial⟩,?_⟩
  refine zw (zg rfl (zm rfl (ae.aE rfl rfl rfl (af rfl rfl aN) (rfl) ?_)))
  have s:=((((s.aa [5,5,1]).del 3).del 3).del 3).del 3
  dsimp only [bringA,getA,ai] at s
  refine zv (zj rfl (WP.skip (zr rfl (zm rfl (zm rfl (zn rfl (zf rfl (jF _ _) (zl rfl (by exact s.ld (k:=0) rfl rN rfl) ?_))))))))
  refine zm rfl ?_
  obtain ⟨i1,js,iI,pq⟩:=Aw
  obtain ⟨iv,h1,e1,s1⟩:=jG (P:=Tryz.prog) (k:=1) (x:=.int .i64 (a:Int)) s Tryz.underlying98 FT jh rfl (by decide) (by decide) rfl rfl
  dsimp only [V.cells] at s1
  refine ae.any rfl rfl rfl (OpR.of (R:=fun v h'=>v=iv∧h'=h1) (mD rfl e1) ⟨rfl,rfl⟩) ?_
  rintro v h' ⟨rfl,rfl⟩
  obtain ⟨I,h2,e2,s2⟩:=fP (s1.aa [2,0]) Tryz.underlying98 js FT iI (by omega) rfl (by decide) (by simp only [ox,List.length_cons,List.length_nil]; omega)
  dsimp only [ai,bringA] at s2
  refine ae.any rfl rfl rfl (OpR.of (R:=fun v h'=>v=I∧h'=h2) (j_ rfl rfl e2) ⟨rfl,rfl⟩) ?_
  rintro v h' ⟨rfl,rfl⟩
  have hv:=s2.gx (j:=0) rfl
  refine zm rfl (zn rfl (zf rfl (jF _ _) (ae.bn rfl rfl rfl rfl rfl (s2.cZ (k:=2) rfl Np rfl (by decide) hv.1 hv.2.1) ?_)))
  intro h s
  dsimp only [Nat.reduceAdd,List.set,setA] at s
  refine za rfl (zv ?_)
  have s:=(s.aa [2,2,0]).del 3
  dsimp only [bringA,getA,ai] at s
  refine ih (a+r.len) (pre++eW (base+a) r.bd) (st++[a]) _ _ _ Q (fun x hx=>om x (List.mem_cons_of_mem _ hx)) (by rw [hl,logB]; simp only [List.append_assoc,Nat.add_assoc]) (by rw [List.length_append,ha,xT]) (by simp; omega) (by rw [show gz (st++[a])=gz st++[.int .i64 (a:Int)] by simp [gz]]; exact s) ⟨rfl,rfl,rfl,trivial⟩ (fun J h' I fu s' => ?_)
  refine hq J h' I ?_ ?_
  ·rw [logB,List.length_append,xT,←Nat.add_assoc,Nat.add_assoc base]
   exact fu
  ·rw [fF,List.append_cons]
   exact s'
noncomputable def Uz : Code:=cn [1,1,1,1,1,1,1,1,1] ((Tryz.f58.body).getD .skip)
theorem vX (hT:W told){st:List Nat}{sv:V}(s:Sat h (pt q (.cells 6 (mL p base b sv 0 aK) false)::a_ b l::.arr 1 sv (gz st)::az p δ::S))(hf:δ.aJ<4294967296){E:List (Nat×V)}{Q:Ex→List (Nat×V)→H→Prop}(hE:Has E [(0,.ptr p 0),(6,.ptr q 0)])
 {y:Int×Dk}(U:y=if δ.aT<l.length then δ.ct else (0,δ))
 (h1:∀J h',y.1≠0→look J 2=some .bI→look J 3=some (.int .i64 y.1)→Sat h' (az p y.2::S)→Q .ret J h')
 (h2:∀J h',y.1=0→look J 2=some (.ptr q 0)→look J 3=some (.int .i64 0)→Sat h' (bj q p { base:=base,b:=l,bE:=st,forced:=l.length,check:=aK }::az p y.2::S)→Q .ret J h'):
  WP ⟨Tryz.prog,told⟩ 134 Uz E h Q:=by
 refine WP.has hE (zw (zw ?_))
 have s0:=s
 have I:=cg (s.buf (k:=1) rfl).view
 refine WP.drawn [none,none,some (0,2),some (0,2),some (0,2),some (0,2),some (0,2),none] rfl (by kernel_rfl) (by kernel_rfl) ?_
 refine zM rfl (au.any rfl rfl rfl rfl (OpR.call rfl rfl rfl rfl (tQ hT (s.aa [3]))) ?_)
 rintro v h' ⟨rfl,rfl⟩
 refine zM rfl (zN rfl (zF rfl (cP _ _) (zL rfl (by exact s.ld (k:=0) rfl bg rfl) ?_)))
 refine zO rfl (aL rfl rfl rfl (aG Tryz.underlying32 (s.ax (k:=1) rfl (bk _ _)))) ?_
 by_cases hc:δ.aT<l.length
 ·skip
  rw [if_pos hc] at U
  refine au.aR rfl rfl rfl rfl (af rfl rfl aX) (by rw [show δ.qf=δ.aT from rfl]; simp; omega) ?_
  refine au.nil ⟨⟨trivial,trivial,fun _ _=>.inr ⟨rfl,⟨_,aV rfl⟩,aU _ rfl⟩,fun _ _=>.inr ⟨rfl,⟨_,kX rfl⟩,aU _ rfl⟩,fun _ _=>.inr ⟨rfl,⟨_,iO rfl (cP _ _)⟩,aU _ rfl⟩,cR (.inr ⟨rfl,⟨_,aI rfl (by exact s0.ld (k:=0) rfl bg rfl)⟩,I⟩) (.inr ⟨rfl,⟨_,aI rfl (by exact s.ld (k:=0) rfl bg rfl)⟩,I⟩),cR (.inr ⟨rfl,⟨_,aL rfl rfl rfl (aG Tryz.underlying32 (s0.ax (k:=1) rfl (bk _ _)))⟩,aU _ rfl⟩) (.inr ⟨rfl,⟨_,aL rfl rfl rfl (aG Tryz.underlying32 (s.ax (k:=1) rfl (bk _ _)))⟩,aU _ rfl⟩),trivial,trivial⟩,?_⟩
  refine zi rfl (zg rfl (zm rfl (ae.call rfl rfl rfl rfl rfl rfl rfl (Lq hT (s.aa [3]) hf) ?_)))
  rintro v h ⟨rfl,s⟩
  rw [←U] at s
  rw [←U]
  dsimp only [mL,ai,bringA] at s
  by_cases h0:y.1=0
  ·skip
   rw [h0]
   refine za rfl (zv (zg rfl (zm rfl (ae.aE rfl rfl rfl (af rfl rfl aN) (rfl) (zv (zj rfl (WP.skip (zg rfl (zm rfl (zm rfl (zn rfl (zf rfl (cP _ _) (zl rfl (by exact s.ld (k:=1) rfl bg rfl) ?_)))))))))))))
   refine zo rfl (aL rfl rfl rfl (by exact aG Tryz.underlying32 (s.ax (k:=2) rfl (bk _ _)))) ?_
   refine zn rfl (zf rfl (o8 _ _) ?_)
   refine ae.bn rfl rfl rfl rfl rfl (by exact s.cZ (k:=1) rfl jh rfl (by decide) rfl rfl) (fun h s => ?_)
   dsimp only [Nat.reduceAdd,List.set,setA] at s
   refine zv (zg rfl (zm rfl (za rfl (za rfl (zv (WP.ret ?_))))))
   exact h2 _ _ h0 rfl rfl (dB.2 ⟨_,_,s.aa [1,1,1,0]⟩)
  ·skip
   refine za rfl (zv (zg rfl (zm rfl (ae.aR rfl rfl rfl (af rfl rfl aN) (by simpa using h0) ?_))))
   refine zv (zi rfl (zg rfl (zm rfl (za rfl (za rfl (zv (WP.ret ?_)))))))
   exact h1 _ _ h0 rfl rfl (((s.del 3).del 2).del 1)
 ·skip
  rw [if_neg hc] at U
  subst U
  refine au.aE rfl rfl rfl rfl (af rfl rfl aX) (by rw [show δ.qf=δ.aT from rfl]; simp; omega) ?_
  refine au.nil ⟨⟨trivial,trivial,fun _ _=>.inr ⟨rfl,⟨_,aV rfl⟩,aU _ rfl⟩,fun _ _=>.inr ⟨rfl,⟨_,kX rfl⟩,aU _ rfl⟩,fun _ _=>.inr ⟨rfl,⟨_,iO rfl (cP _ _)⟩,aU _ rfl⟩,cR (.inr ⟨rfl,⟨_,aI rfl (by exact s0.ld (k:=0) rfl bg rfl)⟩,I⟩) (.inr ⟨rfl,⟨_,aI rfl (by exact s.ld (k:=0) rfl bg rfl)⟩,I⟩),cR (.inr ⟨rfl,⟨_,aL rfl rfl rfl (aG Tryz.underlying32 (s0.ax (k:=1) rfl (bk _ _)))⟩,aU _ rfl⟩) (.inr ⟨rfl,⟨_,aL rfl rfl rfl (aG Tryz.underlying32 (s.ax (k:=1) rfl (bk _ _)))⟩,aU _ rfl⟩),trivial,trivial⟩,?_⟩
  refine zj rfl (WP.skip (zg rfl (zm rfl (zm rfl (zn rfl (zf rfl (cP _ _) (zl rfl (by exact s.ld (k:=0) rfl bg rfl) ?_)))))))
  refine zo rfl (aL rfl rfl rfl (by exact aG Tryz.underlying32 (s.ax (k:=1) rfl (bk _ _)))) ?_
  refine zn rfl (zf rfl (o8 _ _) ?_)
  refine ae.bn rfl rfl rfl rfl rfl (by exact s.cZ (k:=0) rfl jh rfl (by decide) rfl rfl) (fun h s => ?_)
  dsimp only [mL,Nat.reduceAdd,List.set,setA] at s
  refine zv (zg rfl (zm rfl (za rfl (za rfl (zv (WP.ret ?_))))))
  exact h2 _ _ rfl rfl rfl (dB.2 ⟨_,_,s⟩)
noncomputable def UA : Code:=cn [1,1,1,1,1,1] ((Tryz.f58.body).getD .skip)
theorem yh (hT:WR told){rs:List b9}{qM:Nat}(hb:b=.sl qM 0 δ.log.length (.exact δ.log.length))(s:Sat h (pt q (.cells 6 (mL p base b .aH 0 aK) false)::a_ b δ.log::az p δ::S))(U:δ.Ok)(qb:base+δ.log.length≤1099511627776)
 (I:δ.log=logB base rs++j)(om:∀r∈rs,r.Ok)(hj:uF j){E:List (Nat×V)}{Q:Ex→List (Nat×V)→H→Prop}(hE:Has E [(0,.ptr p 0),(6,.ptr q 0)])
 (h1:∀E' h',(δ.dw (logB base rs).length).1≠0→look E' 2=some .bI→look E' 3=some (.int .i64 (δ.dw (logB base rs).length).1)→Sat h' (az p (δ.dw (logB base rs).length).2::S)→Q .ret E' h')
 (h2:∀E' h',(δ.dw (logB base rs).length).1=0→look E' 2=some (.ptr q 0)→look E' 3=some (.int .i64 0)→Sat h' (bj q p (fy base aK rs)::az p (δ.dw (logB base rs).length).2::S)→Q .ret E' h'):
  WP ⟨Tryz.prog,told⟩ 134 UA E h Q:=by
 have hW:=hT.w
 have x_:=U.len
 have hlen:δ.log.length=(logB base rs).length+j.length:=by rw [I,List.length_append]
 subst hb
 have Oi:δ.log.take (logB base rs).length=logB base rs:=by rw [I,List.take_left' rfl]
 generalize ho:δ.dw (logB base rs).length=y at h1 h2
 unfold Dk.dw at ho
 refine WP.has hE (zg rfl (za rfl (zv (zw (WP.block ?_)))))
 refine Ez (pv:=.ptr p 0) hT x_ qb hj rs 0 [] [] .aH h _ _ om (by rw [List.nil_append]; exact I) rfl (by simp) ((s.aa [0,0]).jZ.aa [1,1,0]) ⟨rfl,rfl,rfl,trivial⟩ (fun E h sv hE s => ?_)
 rw [Nat.add_zero,Nat.zero_add] at hE
 rw [List.nil_append] at s
 dsimp only [mL,bringA,getA,ai] at s
 refine WP.has hE (zw (zg rfl (zm rfl (zm rfl (zn rfl (zf rfl (cP _ _) (zl rfl (by exact s.ld (k:=0) rfl bg rfl) ?_)))))))
 refine zo rfl (aL rfl rfl rfl (by exact kF rfl Tryz.underlying32)) ?_
 have J:(δ.dR (logB base rs).length)=if (logB base rs).length<δ.log.length then δ.oJ (logB base rs).length else (0,δ):=rfl
 by_cases bB:(logB base rs).length<δ.log.length
 ·skip
  rw [if_pos bB] at J
  refine ae.aR rfl rfl rfl (af rfl rfl aX) (by simp; omega) ?_
  refine zv (zi rfl (zw (zg rfl (zm rfl (zm rfl (ae.call rfl rfl rfl rfl rfl rfl rfl (Og (n:=(logB base rs).length) hW (s.aa [3]) U) ?_))))))
  rintro v h ⟨rfl,s⟩
  rw [←J] at s
  rw [←J]
  dsimp only [ai,bringA] at s
  by_cases h0:(δ.dR (logB base rs).length).1=0
  ·skip
   rw [if_neg (not_not_intro h0)] at ho
   rw [h0]
   refine za rfl (zv (zg rfl (zm rfl (ae.aE rfl rfl rfl (af rfl rfl aN) (rfl) ?_))))
   have iU:=(eV (s.buf (k:=2) rfl).view (b:=(logB base rs).length) (by omega)).1
   rw [Se] at iU
   refine zv (zj rfl (WP.skip (zr rfl (zm rfl (zm rfl (zn rfl (zf rfl (cP _ _) (zl rfl (by exact s.ld (k:=1) rfl bg rfl) ?_))))))))
   refine zm rfl (zo rfl (bM (p:=none) (q:=some (.int .i64 ((logB base rs).length:Int))) (m:=none) (p':=none) (q':=some (logB base rs).length) (m':=none) rfl rfl rfl rfl rfl (by simp [er,bndV]) rfl iU) ?_)
   refine zn rfl (zf rfl (cP _ _) (ae.bn rfl rfl rfl rfl rfl (s.cZ (k:=1) rfl ig rfl (by decide) rfl rfl) ?_))
   intro h s
   dsimp only [Nat.reduceAdd,List.set,setA] at s
   have s:=(s.aa [2]).dY (G6 (n:=(logB base rs).length) (by omega))
   rw [Oi] at s
   refine zv ?_
   exact vX (l:=logB base rs) hW (s.aa [2,0,1,0]) U.dR.aJ ⟨rfl,rfl,trivial⟩ ho.symm h1 h2
  ·skip
   rw [if_pos h0] at ho
   rw [ho] at h0 s
   rw [ho]
   refine za rfl (zv (zg rfl (zm rfl (ae.aR rfl rfl rfl (af rfl rfl aN) (by simpa using h0) ?_))))
   refine zv (zi rfl (zg rfl (zm rfl (za rfl (za rfl (zv (WP.ret ?_)))))))
   exact h1 _ _ h0 rfl rfl (((s.del 3).del 2).del 1)
 ·skip
  rw [if_neg bB] at J
  rw [J,if_neg (by simp)] at ho
  refine ae.aE rfl rfl rfl (af rfl rfl aX) (by simp; omega) ?_
  refine zv (zj rfl (WP.skip ?_))
  have e:δ.log=logB base rs:=by
   rw [List.take_of_length_le (by omega)] at Oi
   exact Oi
  exact vX (l:=logB base rs) hW (by rw [e] at s; exact s) U.aJ ⟨rfl,rfl,trivial⟩ ho.symm h1 h2
def G7 (mark:List Nat)(base aK:Nat): Prop:=(mark=[]∧base=1∧aK=0)∨mark=le 8 base++le 8 aK
theorem Ji (hT:WR told){rs:List b9}(s:Sat h (az p δ::S))(U:δ.Ok)(hd:δ.dead=false)(hm:G7 δ.mark base aK)(I:base+δ.log.length≤1099511627776)(Oj:aK<18446744073709551616)
 (J:δ.log=logB base rs++j)(om:∀r∈rs,r.Ok)(hj:uF j):
  Call ⟨Tryz.prog,told⟩ 58 [.ptr p 0] h fun v h'=>((δ.dw (logB base rs).length).1≠0∧v=.aW [.bI,.int .i64 (δ.dw (logB base rs).length).1]∧Sat h' (az p (δ.dw (logB base rs).length).2::S)) ∨
   ((δ.dw (logB base rs).length).1=0∧∃q,v=.aW [.ptr q 0,.int .i64 0]∧Sat h' (bj q p (fy base aK rs)::az p (δ.dw (logB base rs).length).2::S)):=by
 have hW:=hT.w
 have x_:=U.len
 have Qx:δ.mark.length≤64:=by rcases hm with ⟨hm,_⟩ | hm <;> rw [hm] <;> simp [cM]
 refine Call.of_wp (hW.free _ rfl) Tryz.func58 rfl rfl (zg rfl (za rfl (za rfl (zv (zg rfl (zm rfl (ae.call rfl rfl rfl rfl rfl rfl rfl (vF hW s Qx) ?_)))))))
 rintro v h (⟨Fo,_,_⟩ | ⟨_,b0,rfl,s⟩)
 ·rw [hd] at Fo; cases Fo
 refine zm rfl (ze rfl (ze rfl (za rfl (za rfl (zv (zw (zg rfl (zm rfl (ae.aE rfl rfl rfl (af rfl rfl aN) (rfl) (zv (zj rfl (WP.skip (zg rfl (zm rfl (zo rfl (bW rfl (by rw [JY]; rfl)) ?_)))))))))))))))
 refine ae.bO s rfl rfl rfl (ff rfl rfl) (fun Qy h s => ?_)
 dsimp only [V.cells,List.take,List.length_cons,List.length_nil,Nat.reduceAdd,List.drop,List.cons_append,List.nil_append] at s
 refine za rfl (zv (zw (zg rfl (zm rfl (zm rfl ?_)))))
 have s:=s.aa [2,0,0]
 dsimp only [bringA,getA,ai] at s
 refine ae.call rfl rfl rfl rfl rfl rfl rfl (Ey hW s hd (by omega)) ?_
 rintro v h ⟨qM,rfl,s⟩
 refine zm rfl (ze rfl (ze rfl (zn rfl (zf rfl (cP _ _) (ae.bn rfl rfl rfl rfl rfl (s.cZ (k:=2) rfl ig rfl (by decide) rfl rfl) ?_)))))
 intro h s
 dsimp only [Nat.reduceAdd,List.set,setA] at s
 refine za rfl (zv (zg rfl (zm rfl (ae.aE rfl rfl rfl (af rfl rfl aN) (rfl) (zv (zj rfl (WP.skip (zw (zg rfl (zm rfl (zo rfl (aL rfl rfl rfl (by exact aG Tryz.underlying32 (s.ax (k:=3) rfl (bk _ _)))) ?_)))))))))))
 refine zv (WP.block (zg rfl ?_))
 rcases hm with ⟨hm,rfl,rfl⟩ | hm
 ·skip
  refine ae.aR rfl rfl rfl (af rfl rfl cS) (by rw [hm]; rfl) ?_
  refine za rfl (zv (zi rfl (WP.skip ?_)))
  exact yh hT rfl ((s.aa [2,0,0]).del 3) U I J om hj ⟨rfl,rfl,trivial⟩ (fun E' h' h0 e1 e2 s'=>⟨trivial,_,oR e1 e2,.inl ⟨h0,rfl,s'⟩⟩) (fun E' h' h0 e1 e2 s'=>⟨trivial,_,oR e1 e2,.inr ⟨h0,_,rfl,s'⟩⟩)
 ·skip
  have Ra:δ.mark.length=16:=by rw [hm]; simp [cM]
  refine ae.aE rfl rfl rfl (af rfl rfl cS) (by rw [Ra]; rfl) ?_
  refine za rfl (zv (zj rfl (zg rfl (ae.aR rfl rfl rfl (af rfl rfl cS) (by rw [Ra]; rfl) ?_))))
  refine za rfl (zv (zi rfl ?_))
  have w1:δ.mark.take 8=le 8 base:=by rw [hm,List.take_left' (by rw [cM])]
  have w2:δ.mark.drop 8=le 8 aK:=by rw [hm,List.drop_left' (by rw [cM])]
  have UB:=cg (s.buf (k:=3) rfl).view
  have s0:=s
  refine WP.drawn [some (0,3),some (0,4),none,none,none,some (0,2),some (0,2),none,none,none,none,none,none,none] rfl (by kernel_rfl) (by kernel_rfl) ?_
  refine zM rfl (zM rfl (zM rfl (zO rfl (bM (p:=none) (q:=some (.int .i64 8)) (m:=none) (p':=none) (q':=some 8) (m':=none) rfl rfl rfl rfl rfl rfl rfl (eV (s.buf (k:=3) rfl).view (b:=8) (by omega)).1) ?_)))
  refine au.any rfl rfl rfl rfl (OpR.call rfl rfl rfl rfl (kI hW s (k:=3) rfl (p9 (bk _ _) (b:=8) (by omega)) (by rw [w1,cM]; decide))) ?_
  rintro v h' ⟨rfl,rfl⟩
  rw [w1,pI,Nat.mod_eq_of_lt (by omega)]
  refine zM rfl (zO rfl (bM (p:=some (.int .i64 8)) (q:=none) (m:=none) (p':=some 8) (q':=none) (m':=none) rfl rfl rfl rfl rfl rfl rfl (cT (s.buf (k:=3) rfl).view (a:=8) (by omega)).1) ?_)
  refine au.any rfl rfl rfl rfl (OpR.call rfl rfl rfl rfl (kI hW s (k:=3) rfl (lU (bk _ _) (a:=8) (by omega)) (by rw [w2,cM]; decide))) ?_
  rintro v h' ⟨rfl,rfl⟩
  rw [w2,pI,Nat.mod_eq_of_lt (by omega)]
  refine zN rfl (zF rfl (iE _ _) (au.fI rfl rfl rfl (OpR.bn rfl rfl rfl (s.cZ (k:=2) rfl mG rfl (by decide) rfl rfl)) ?_))
  rintro v h ⟨rfl,s⟩
  dsimp only [Nat.reduceAdd,List.set,setA] at s
  have s2:=s
  refine zN rfl (zF rfl (CH _ _) (au.fI rfl rfl rfl (OpR.bn rfl rfl rfl (s.cZ (k:=2) rfl mG rfl (by decide) rfl rfl)) ?_))
  rintro v h ⟨rfl,s⟩
  dsimp only [Nat.reduceAdd,List.set,setA] at s
  have xU:=cg (cT (s0.buf (k:=3) rfl).view (a:=8) (by omega)).2.1
  refine au.nil ⟨⟨fun _ _=>.inr ⟨rfl,⟨_,aV rfl⟩,aU _ rfl⟩,fun _ _=>.inr ⟨rfl,⟨_,aV rfl⟩,aU _ rfl⟩,trivial,trivial,trivial,fun _ _=>.inr ⟨rfl,⟨_,aV rfl⟩,UB⟩,cR (.inr ⟨rfl,⟨_,bM (p:=some (.int .i64 8)) (q:=none) (m:=none) (p':=some 8) (q':=none) (m':=none) rfl rfl rfl rfl rfl rfl rfl (cT (s0.buf (k:=3) rfl).view (a:=8) (by omega)).1⟩,xU⟩) (.inr ⟨rfl,⟨_,bM (p:=some (.int .i64 8)) (q:=none) (m:=none) (p':=some 8) (q':=none) (m':=none) rfl rfl rfl rfl rfl rfl rfl (cT (s0.buf (k:=3) rfl).view (a:=8) (by omega)).1⟩,xU⟩),trivial,trivial,trivial,trivial,trivial,trivial,trivial,trivial⟩,?_⟩
  exact yh hT rfl ((s.aa [2,0,0]).del 3) U I J om hj ⟨rfl,rfl,trivial⟩ (fun E' h' h0 e1 e2 s'=>⟨trivial,_,oR e1 e2,.inl ⟨h0,rfl,s'⟩⟩) (fun E' h' h0 e1 e2 s'=>⟨trivial,_,oR e1 e2,.inr ⟨h0,_,rfl,s'⟩⟩)
end
end Go.Proofs.YtconhghphklfjaaGreat.Am
