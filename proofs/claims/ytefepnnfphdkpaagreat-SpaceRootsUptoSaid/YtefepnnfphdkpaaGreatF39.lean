/- SpaceRoots: a part of its proof; conditions: its statement's. -/
import Derived.Test.YtefepnnfphdkpaaGreatF38
namespace Go.Proofs.YtefepnnfphdkpaaGreat.Am
open Go
def Dk.qq (δ:Dk)(n:Nat): Int×Dk :=
 if δ.dead=true then (9,δ) else if ¬n≤δ.log.length then (1,δ) else if δ.aP=0 then (9,δ.die) else (0,{ δ.c8 with log:=δ.log.take n,bp:=n })
def Dk.dG (δ:Dk)(n:Nat): Int×Dk:=if n<δ.log.length then δ.qq n else (0,δ)
def Dk.cH (δ:Dk)(n:Nat): Int×Dk :=
 if (δ.dG n).1≠0 then δ.dG n else if (δ.dG n).2.bp<n then (δ.dG n).2.cK else (0,(δ.dG n).2)
def iE (base aH:Nat)(rs:List bZ): Lg:={ base:=base,b:=logB base rs,cF:=lE 0 rs,forced:=(logB base rs).length,check:=aH }
theorem sg (n:Nat)(b:List Nat): (iq n b).length=8+b.length:=by rw [oT]
theorem J6 {h h':H}{c:Nat}{v:V}(I:c<1073741824)(he:makeSliceV Tryz.prog h 28 (.int .i64 0) (.int .i64 (c:Int))=some (v,h')): v=.sl h.next 0 0 (.exact c):=by
 obtain ⟨i,hi,i1,i2⟩:=wA
 simp only [makeSliceV,aG,hi,oO,i1,i2,V.cells,aS,bT,b9,c9] at he
 rw [show (decide ((0:Int)≤0)&&decide ((0:Int)≤(c:Int))&&decide ((c:Int)<1073741824)&&Nat.ble 1 4096&&Nat.beq (0+1) 1&&Nat.ble 1 1)=true by simp; omega,ag] at he
 exact (congrArg Prod.fst (bk he)).symm
theorem I1 {h h':H}{id c n:Nat}{x v:V}{m:List Nat}(J:View h x m)(I:n+m.length≤c)(he:appendV Tryz.prog h #[28,28] (.sl id 0 n (.exact c)) x=some (v,h')): v=.sl id 0 (n+m.length) (.exact c):=by
 obtain ⟨i,hi,i1,i2⟩:=wA
 unfold appendV at he
 simp only [aG,hi,oO,i1,i2,V.cells,aS,bT,CR J] at he
 rw [show (Nat.ble 1 1&&Nat.ble 1 4096&&Nat.beq (0+1) 1)=true from rfl,ag] at he
 cases hm:Nat.beq m.length 0 with
 | true =>
  rw [hm,ag] at he
  rw [beq_iff.1 hm]; exact (congrArg Prod.fst (bk he)).symm
 | false =>
  rw [hm,az,aJ.2 I,ag] at he
  split at he
  ·exact (congrArg Prod.fst (bk he)).symm
  ·cases he
theorem PZ {id c n:Nat}{l:List Nat}(hn:n≤l.length): cT (aZ (.sl id 0 l.length (.exact c)) l) (aZ (.sl id 0 n (.exact c)) (l.take n)):=by
 intro m r ⟨h1,h2⟩
 have hl:(l.take n).length=n:=by rw [dM]; omega
 refine ⟨fun b hb=>h1 b (gW hb),.inr (.inl ?_)⟩
 rcases h2 with ⟨e,_⟩ | ⟨J,cs,c',e,hg,hc⟩ | ⟨J,e,_⟩
 ·cases e
 ·injection e with e1 _ _ I
  injection I with I
  subst e1; subst I
  refine ⟨_,ofBytes (l.drop n)++cs,_,by rw [hl],?_,?_⟩
  ·rw [←bS,←rG,vK]; exact hg
  ·rw [bx,c7,vU,hl]; omega
 ·injection e with _ _ _ I; cases I
section
variable {told:cQ} {h:H} {S:List au} {X:au} {p:Nat} {δ:Dk}
theorem J7 (hT:W told){x:V}{l:List Nat}(s:Sat h (X::S))(J:cT X (cU x l))(hl:l.length<1073741824):
  Call ⟨Tryz.prog,told⟩ 90 [x] h fun v h'=>∃id,v=.sl id 0 l.length (.exact l.length)∧Sat h' (aZ v l::X::S):=by
 refine Call.of_wp (hT.free _ rfl) Tryz.func90 rfl rfl (zK 7 rfl (zo rfl (aU rfl rfl rfl (a_ aG (s.aE (k:=0) rfl J))) ?_))
 obtain ⟨v1,h1,e1,s1⟩:=Fu s hl
 have uI:=J6 hl e1
 subst uI
 refine aA.any rfl rfl rfl (OpR.of (R:=fun v h'=>v=.sl h.next 0 0 (.exact l.length)∧h'=h1) (sK rfl rfl e1) ⟨rfl,rfl⟩) ?_
 rintro v h' ⟨rfl,rfl⟩
 refine zm rfl ?_
 obtain ⟨v2,h2,e2,s2⟩:=C8 s1 J (by simp; omega)
 have I:=I1 (s1.aE (k:=1) rfl J) (by omega) e2
 rw [dH] at I
 subst I
 refine aA.any rfl rfl rfl (OpR.of (R:=fun v h'=>v=.sl h.next 0 l.length (.exact l.length)∧h'=h2) (mF rfl rfl e2) ⟨rfl,rfl⟩) ?_
 rintro v h' ⟨rfl,rfl⟩
 exact zk 2 rfl (WP.ret ⟨aa,_,rfl,_,rfl,s2⟩)
theorem M6 (I:W told)(s:Sat h (aR p δ::S))(J:δ.dead=false)(hl:δ.log.length<1073741824): Call ⟨Tryz.prog,told⟩ 132 [.ptr p 0] h fun v h' =>
  ∃id,v=.bj [.sl id 0 δ.log.length (.exact δ.log.length),.int .i64 0]∧Sat h' (aZ (.sl id 0 δ.log.length (.exact δ.log.length)) δ.log::aR p δ::S):=by
 obtain ⟨pg,wt,nw,lg,mk,tn,tl,ops,s⟩:=bG.1 s
 refine Call.of_wp (I.free _ rfl) Tryz.func132 rfl rfl (zK 10 rfl (zf rfl (ko _ _) (zh rfl ((bh rfl (s.ld (k:=0) rfl kX rfl))) (J) (zk 7 rfl (zf rfl (kn _ _) (zl rfl (s.ld (k:=0) rfl bJ rfl) (zc rfl (J7 I (s.ae [4]) (bg _ _) hl) ?_)))))))
 rintro v h ⟨id,rfl,s⟩
 exact zk 3 rfl (WP.ret ⟨aa,_,rfl,id,rfl,(bG.2 ⟨pg,wt,nw,lg,mk,tn,tl,ops,s.ae [2,2,2,2,1,1,1,1,0]⟩).ae [1]⟩)
end
section
variable {told:cQ} {h:H} {S:List au} {X:au} {v b pv:V} {l j:List Nat} {q p base aH n:Nat} {δ:Dk}
theorem abg {id m n c:Nat}: slR (.sl id 0 m (.exact c)) 0 n=.sl id 0 n (.exact c):=by
 simp only [slR,qR,gH,kf]
 cases Nat.beq c 0 <;> rfl
theorem Dk.Ok.dG {δ:Dk}{n:Nat}(h:δ.Ok): (δ.dG n).2.Ok:=by
 have J:=h.len
 unfold Dk.dG Dk.qq
 split
 ·split
  ·exact h
  ·split
   ·exact h
   ·split
    ·exact h.die
    ·have I:=h.c8
     exact ⟨I.aP,by show (δ.log.take n).length≤_; rw [dM]; omega,I.room,I.now,I.ax,by show n≤(δ.log.take n).length; rw [dM]; omega,I.many⟩
 ·exact h
theorem Dk.Ok.cH {δ:Dk}{n:Nat}(h:δ.Ok): (δ.cH n).2.Ok:=by
 unfold Dk.cH
 split
 ·exact h.dG
 ·split
  ·exact h.dG.cK
  ·exact h.dG
theorem XW (hT:W told)(s:Sat h (aR p δ::S))(J:δ.Ok): Call ⟨Tryz.prog,told⟩ 134 [.ptr p 0,.int .i64 (n:Int)] h fun v h'=>v=.int .i64 (δ.qq n).1∧Sat h' (aR p (δ.qq n).2::S):=by
 have hl:=J.len
 refine (Q9 hT s J.aP (by omega)).mono fun v h' hr => ?_
 unfold Dk.qq
 rcases hr with ⟨I,rfl,s⟩ | ⟨I,h1,rfl,s⟩ | ⟨I,h1,h2,h0,rfl,s⟩ | ⟨I,h1,h2,h0,rfl,s⟩
 ·rw [aj I]; exact ⟨rfl,s⟩
 ·rw [ah (by rw [I]; decide),aj (by omega)]; exact ⟨rfl,s⟩
 ·rw [ah (by rw [I]; decide),ah (by omega),aj h0]; exact ⟨rfl,s⟩
 ·rw [ah (by rw [I]; decide),ah (by omega),ah h0]; exact ⟨rfl,s⟩
theorem Sr (hT:WR told){r:bZ}{a:Nat}{pre rest:List Nat}(I:r.Ok)(ha:pre.length=a)(hl:l=pre++(iq n r.bd++rest))(J:l.length≤1073741824)(s:Sat h (X::S))(hX:cT X (cU v l)):
  Call ⟨Tryz.prog,told⟩ 133 [v,.int .i64 (a:Int),.int .u64 (n:Int)] h fun x h'=>∃dt ch cs,x=.bj [.agg (gT r.kd r.tx r.pv r.nx dt ch),.int .i64 ((a+r.len:Nat):Int),.int .i64 0]∧Sat h' (X::aZ dt r.data::.arr 4 ch cs::dg cs r.aM::S):=by
 refine (I0 hT I.good I.kd I.rd rfl I.len ha hl J s hX).mono fun x h' hx => ?_
 have e:a+r.len=a+8+(dK r.kd r.tx r.pv r.nx r.data r.aM).length:=by rw [bZ.len,bZ.bd]; omega
 rw [e]
 exact hx
theorem Ll {kd n e:Int}{tx pv nx:Nat}{dt ch:V}(I:dt.beq dt=true)(J:ch.beq ch=true): (V.bj [.agg (gT kd tx pv nx dt ch),.int .i64 n,.int .i64 e]).beq (V.bj [.agg (gT kd tx pv nx dt ch),.int .i64 n,.int .i64 e])=true:=by
 simp only [V.beq,V.beqL,gT,I,J,lz,dN,iu,ag]
noncomputable def woL : Code:=dB [1,1,1,1,1,1,1,0,0,0] ((Tryz.f80.body).getD .skip)
theorem M7 (hT:WR told)(Ij:l.length≤16777216)(xz:base+l.length≤1099511627776)(hj:rD j): ∀(rs:List bZ) (a:Nat) (pre st:List Nat) (J:V) (h:H) (E:List (Nat×V)) (Q:Ex→List (Nat×V)→H→Prop),
  (∀r∈rs,r.Ok)→l=pre++(logB (base+a) rs++j)→pre.length=a→st.length≤a→Sat h (pt q (.cells 6 (zQ p base b J 0 aH) false)::aZ b l::.arr 1 J (ej st)::S) →
  Has E [(0,pv),(6,.ptr q 0),(7,.int .i64 (a:Int))] →
  (∀E' h' I,Has E' [(0,pv),(6,.ptr q 0),(7,.int .i64 ((a+(logB (base+a) rs).length:Nat):Int))]→Sat h' (pt q (.cells 6 (zQ p base b I 0 aH) false)::aZ b l::.arr 1 I (ej (st++lE a rs))::S)→Q (.exit 1) E' h') →
  WP ⟨Tryz.prog,told⟩ 134 (.loop woL) E h Q:=by
 have hW:=hT.w
 intro rs
 induction rs with
 | nil =>
  intro a pre st J h E Q _ hl ha _ s hE hq
  have hq:∀E' h',Has E' [(0,pv),(6,.ptr q 0),(7,.int .i64 (a:Int))]→Sat h' (pt q (.cells 6 (zQ p base b J 0 aH) false)::aZ b l::.arr 1 J (ej st)::S)→Q (.exit 1) E' h':=fun E' h' h1 h2=>hq E' h' J h1 (by rw [lE,bR]; exact h2)
  have hlen:l.length=a+j.length:=by rw [hl,logB,cZ,bx,ha]
  refine WP.loop (WP.has hE (zK 6 rfl (zf rfl (eM _ _) (zl rfl (s.ld (k:=0) rfl bJ rfl) (zo rfl (aU rfl rfl rfl (a_ aG (s.aE (k:=1) rfl (bg _ _)))) ?_)))))
  by_cases hz:j.length=0
  ·skip
   refine zh rfl (af rfl rfl aT) (by simp; omega) ?_
   exact zk 2 rfl (WP.exit (hq _ _ ⟨rfl,rfl,rfl,aa⟩ s))
  ·skip
   refine zt rfl (af rfl rfl aT) (by simp; omega) ?_
   refine zk 3 rfl (WP.block (zw ?_))
   have s0:=s
   have Ow:=dz (s.buf (k:=1) rfl).view
   refine WP.drawn [ai,ai,ai,ai,ai,ai,ai,ai,ai,ai,ai,ai,ai,some (1,2),some (1,2),some (1,3),some (1,3),ai,ai,ai,ai] rfl (by kernel_rfl) (by kernel_rfl) ?_
   refine zM rfl (zN rfl (zF rfl (eM _ _) (zL rfl (s.ld (k:=0) rfl bJ rfl) (zM rfl (zM rfl (zN rfl (zF rfl (l7 _ _) (zL rfl (s.ld (k:=0) rfl lZ rfl) (zM rfl (aB.op rfl rfl rfl (by simp only [isEff,cE]) (cJ rfl (by exact iZ bD cE (fD (by omega) (by omega)))) ?_))))))))))
   refine zO rfl (af rfl rfl (by exact br (fD (by omega) (by omega)))) ?_
   refine aB.any rfl rfl rfl rfl (OpR.call rfl rfl rfl rfl (M5 (n:=base+a) (a:=a) hW hj ha hl (by omega) (s.ae [1]) (bg _ _))) ?_
   rintro x h ⟨rfl,s⟩
   dsimp only [zQ,aQ,bringA] at s
   have s1:=s
   have XX:=Ll (kd:=0) (tx:=0) (pv:=0) (nx:=0) (dt:=.bw) (ch:=.bw) (n:=0) (e:=4) rfl rfl
   have Ir:=Ba (kd:=0) (tx:=0) (pv:=0) (nx:=0) (dt:=.bw) (ch:=.bw) rfl rfl
   refine zM rfl (zO rfl (cO rfl rfl) (zO rfl (cO rfl rfl) (zO rfl (cO rfl rfl) (aB.any rfl rfl rfl rfl (OpR.b5 s (bX qX)) ?_))))
   rintro v h ⟨p8,rfl,s⟩
   dsimp only [V.cells,List.length_cons,List.length_nil,Nat.reduceAdd] at s
   have s2:=s
   refine aB.i_ rfl rfl rfl (OpR.fO rfl rfl rfl (s.eH (j:=0) rfl gL rfl rfl)) ?_
   rintro v h ⟨rfl,s⟩
   dsimp only [setA] at s
   refine zA rfl (zA rfl ?_)
   refine aB.nil ⟨⟨aa,aa,aa,aa,aa,aa,aa,aa,aa,aa,aa,aa,aa,fun _ _=>.inr ⟨rfl,⟨_,bz rfl⟩,XX⟩,fun _ _=>.inr ⟨rfl,⟨_,cO rfl rfl⟩,Ir⟩,fun _ _=>.inr ⟨rfl,⟨_,cO rfl rfl⟩,bq _ rfl⟩,fun _ _=>.inr ⟨rfl,⟨_,cO rfl rfl⟩,bq _ rfl⟩,aa,aa,aa,aa,aa⟩,?_⟩
   exact zK 4 rfl (zt rfl (af rfl rfl aN) (rfl) (zk 2 rfl (WP.exit (hq _ _ ⟨rfl,rfl,rfl,aa⟩ ((s.del 0).ae [1,0,0])))))
 | cons r rs ih =>
  intro a pre st J h E Q uW hl ha fN s hE hq
  have hr:=uW r bu
  have FK:(iq (base+a) r.bd).length=r.len:=by rw [sg]; rfl
  have hlen:l.length=a+(r.len+((logB (base+a+r.len) rs).length+j.length)):=by rw [hl,logB]; simp only [bx,ha,FK]; omega
  have hr8:8≤r.len:=by rw [bZ.len]; omega
  refine WP.loop (WP.has hE (zK 6 rfl (zf rfl (eM _ _) (zl rfl (s.ld (k:=0) rfl bJ rfl) (zo rfl (aU rfl rfl rfl (a_ aG (s.aE (k:=1) rfl (bg _ _)))) (zt rfl (af rfl rfl aT) (by simp; omega) ?_))))))
  refine zk 3 rfl (WP.block (zw ?_))
  have s0:=s
  have Ow:=dz (s.buf (k:=1) rfl).view
  refine WP.drawn [ai,ai,ai,ai,ai,ai,ai,ai,ai,ai,ai,ai,ai,some (1,2),some (1,2),some (1,3),some (1,3),ai,ai,ai,ai] rfl (by kernel_rfl) (by kernel_rfl) ?_
  refine zM rfl (zN rfl (zF rfl (eM _ _) (zL rfl (s.ld (k:=0) rfl bJ rfl) (zM rfl (zM rfl (zN rfl (zF rfl (l7 _ _) (zL rfl (s.ld (k:=0) rfl lZ rfl) (zM rfl (aB.op rfl rfl rfl (by simp only [isEff,cE]) (cJ rfl (by exact iZ bD cE (fD (by omega) (by omega)))) ?_))))))))))
  refine zO rfl (af rfl rfl (by exact br (fD (by omega) (by omega)))) ?_
  refine aB.any rfl rfl rfl rfl (OpR.call rfl rfl rfl rfl (Sr (r:=r) (n:=base+a) (a:=a) (rest:=logB (base+a+r.len) rs++j) hT hr ha (by rw [hl,logB,bS]) (by omega) (s.ae [1]) (bg _ _))) ?_
  rintro x h ⟨dt,ch,cs,rfl,s⟩
  dsimp only [zQ,aQ,bringA] at s
  have jr:=(s.buf (k:=1) rfl).view.cells
  have jT:=s.jb (j:=2) rfl
  have Ft:=dz (s.buf (k:=1) rfl).view
  have fN:[V.int .i64 (r.kd:Int),V.int .u64 (r.tx:Int),V.int .u64 (r.pv:Int),V.int .u64 (r.nx:Int),dt,ch].all storable=true:=mP jr.2 jT.2.1
  have XX:=Ll (kd:=r.kd) (tx:=r.tx) (pv:=r.pv) (nx:=r.nx) (n:=((a+r.len:Nat):Int)) (e:=0) Ft jT.2.2
  have Ir:=Ba (kd:=r.kd) (tx:=r.tx) (pv:=r.pv) (nx:=r.nx) Ft jT.2.2
  have s1:=s
  refine zM rfl (zO rfl (cO rfl rfl) (zO rfl (cO rfl rfl) (zO rfl (cO rfl rfl) (aB.any rfl rfl rfl rfl (OpR.b5 s (bX qX)) ?_))))
  rintro v h ⟨p8,rfl,s⟩
  dsimp only [V.cells,List.length_cons,List.length_nil,Nat.reduceAdd] at s
  have s2:=s
  refine aB.i_ rfl rfl rfl (OpR.fO rfl rfl rfl (s.eH (j:=0) rfl gL rfl fN)) ?_
  rintro v h ⟨rfl,s⟩
  dsimp only [setA] at s
  refine zA rfl (zA rfl ?_)
  refine aB.nil ⟨⟨aa,aa,aa,aa,aa,aa,aa,aa,aa,aa,aa,aa,aa,fun _ _=>.inr ⟨rfl,⟨_,bz rfl⟩,XX⟩,fun _ _=>.inr ⟨rfl,⟨_,cO rfl rfl⟩,Ir⟩,fun _ _=>.inr ⟨rfl,⟨_,cO rfl rfl⟩,bq _ rfl⟩,fun _ _=>.inr ⟨rfl,⟨_,cO rfl rfl⟩,bq _ rfl⟩,aa,aa,aa,aa,aa⟩,?_⟩
  refine zK 4 rfl (zh rfl (af rfl rfl aN) (rfl) ?_)
  have s:=((((s.ae [5,5,1]).del 3).del 3).del 3).del 3
  dsimp only [bringA,getA,aQ] at s
  refine zk 7 rfl (zf rfl (nX _ _) (zl rfl (s.ld (k:=0) rfl y8 rfl) (zm rfl ?_)))
  obtain ⟨i1,kB,jF,wL⟩:=xF
  obtain ⟨iv,h1,e1,s1⟩:=l_ (P:=Tryz.prog) (k:=1) (x:=.int .i64 (a:Int)) s eB C2 kW rfl (by decide) (by decide) rfl rfl
  dsimp only [V.cells] at s1
  refine aA.any rfl rfl rfl (OpR.of (R:=fun v h'=>v=iv∧h'=h1) (om rfl e1) ⟨rfl,rfl⟩) ?_
  rintro v h' ⟨rfl,rfl⟩
  obtain ⟨I,h2,e2,s2⟩:=iK (s1.ae [2,0]) eB kB C2 jF (by omega) rfl (by decide) (by simp only [iD,aS,bT]; omega)
  dsimp only [aQ,bringA] at s2
  refine aA.any rfl rfl rfl (OpR.of (R:=fun v h'=>v=I∧h'=h2) (mF rfl rfl e2) ⟨rfl,rfl⟩) ?_
  rintro v h' ⟨rfl,rfl⟩
  have hv:=s2.jb (j:=0) rfl
  refine zk 2 rfl (zf rfl (nX _ _) (zS rfl (s2.ey (k:=2) rfl WJ rfl (by decide) hv.1 hv.2.1) ?_))
  intro h s
  dsimp only [Nat.reduceAdd,List.set,setA] at s
  refine za rfl (zv ?_)
  have s:=(s.ae [2,2,0]).del 3
  refine ih (a+r.len) (pre++iq (base+a) r.bd) (st++[a]) _ _ _ Q (fun x hx=>uW x (bn _ hx)) (by rw [hl,logB]; simp only [bS,gx]) (by rw [bx,ha,FK]) (by simp; omega) (by rw [show ej (st++[a])=ej st++[.int .i64 (a:Int)] by simp [ej]]; exact s) ⟨rfl,rfl,rfl,aa⟩ (fun E' h' I jd s' => ?_)
  refine hq E' h' I ?_ ?_
  ·rw [logB,bx,FK,←gx,gx base]
   exact jd
  ·rw [lE,List.append_cons]
   exact s'
noncomputable def woE : Code:=dB [1,1,1,1,1,1,1,1,1] ((Tryz.f80.body).getD .skip)
theorem DL (hT:W told){st:List Nat}{sv:V}(s:Sat h (pt q (.cells 6 (zQ p base b sv 0 aH) false)::aZ b l::.arr 1 sv (ej st)::aR p δ::S))(hf:δ.aP<4294967296){E:List (Nat×V)}{Q:Ex→List (Nat×V)→H→Prop}(hE:Has E [(0,.ptr p 0),(6,.ptr q 0)])
 {y:Int×Dk}(J:y=if δ.bp<l.length then δ.cK else (0,δ))
 (h1:∀E' h',y.1≠0→look E' 2=some .cu→look E' 3=some (.int .i64 y.1)→Sat h' (aR p y.2::S)→Q .ret E' h')
 (h2:∀E' h',y.1=0→look E' 2=some (.ptr q 0)→look E' 3=some (.int .i64 0)→Sat h' (b8 q p { base:=base,b:=l,cF:=st,forced:=l.length,check:=aH }::aR p y.2::S)→Q .ret E' h'):
  WP ⟨Tryz.prog,told⟩ 134 woE E h Q:=by
 refine WP.has hE (zK 2 rfl ?_)
 have s0:=s
 have I:=dz (s.buf (k:=1) rfl).view
 refine WP.drawn [none,none,some (0,2),some (0,2),some (0,2),some (0,2),some (0,2),none] rfl (by kernel_rfl) (by kernel_rfl) ?_
 refine zM rfl (aB.any rfl rfl rfl rfl (OpR.call rfl rfl rfl rfl (BE hT (s.ae [3]))) ?_)
 rintro v h' ⟨rfl,rfl⟩
 refine zM rfl (zN rfl (zF rfl (eM _ _) (zL rfl (s.ld (k:=0) rfl bJ rfl) (zO rfl (aU rfl rfl rfl (a_ aG (s.aE (k:=1) rfl (bg _ _)))) ?_))))
 by_cases hc:δ.bp<l.length
 ·skip
  rw [aj hc] at J
  refine aB.y5 rfl rfl rfl rfl (af rfl rfl aT) (by rw [show δ.xC=δ.bp from rfl]; simp; omega) ?_
  refine aB.nil ⟨⟨aa,aa,fun _ _=>.inr ⟨rfl,⟨_,bz rfl⟩,bq _ rfl⟩,fun _ _=>.inr ⟨rfl,⟨_,oK rfl⟩,bq _ rfl⟩,fun _ _=>.inr ⟨rfl,⟨_,lY rfl (eM _ _)⟩,bq _ rfl⟩,dW (.inr ⟨rfl,⟨_,bh rfl (s0.ld (k:=0) rfl bJ rfl)⟩,I⟩) (.inr ⟨rfl,⟨_,bh rfl (s.ld (k:=0) rfl bJ rfl)⟩,I⟩),dW (.inr ⟨rfl,⟨_,aU rfl rfl rfl (a_ aG (s0.aE (k:=1) rfl (bg _ _)))⟩,bq _ rfl⟩) (.inr ⟨rfl,⟨_,aU rfl rfl rfl (a_ aG (s.aE (k:=1) rfl (bg _ _)))⟩,bq _ rfl⟩),aa,aa⟩,?_⟩
  refine zK 4 rfl (zc rfl (UJ hT (s.ae [3]) hf) ?_)
  rintro v h ⟨rfl,s⟩
  rw [←J] at s
  rw [←J]
  by_cases h0:y.1=0
  ·skip
   rw [h0]
   refine zk 5 rfl (zh rfl (af rfl rfl aN) (rfl) (zk 8 rfl (zf rfl (eM _ _) (zl rfl (s.ld (k:=1) rfl bJ rfl) (zo rfl (aU rfl rfl rfl (a_ aG (s.aE (k:=2) rfl (bg _ _)))) (zn rfl (zf rfl (wE _ _) ?_)))))))
   refine zS rfl (by exact s.ey (k:=1) rfl kW rfl (by decide) rfl rfl) (fun h s => ?_)
   exact zk 7 rfl (WP.ret (h2 _ _ h0 rfl rfl (fL.2 ⟨_,_,s.ae [1,1,1,0]⟩)))
  ·skip
   refine zk 5 rfl (zt rfl (af rfl rfl aN) (by simpa using h0) ?_)
   exact zk 8 rfl (WP.ret (h1 _ _ h0 rfl rfl (((s.del 3).del 2).del 1)))
 ·skip
  rw [ah hc] at J
  subst J
  refine aB.oD rfl rfl rfl rfl (af rfl rfl aT) (by rw [show δ.xC=δ.bp from rfl]; simp; omega) ?_
  refine aB.nil ⟨⟨aa,aa,fun _ _=>.inr ⟨rfl,⟨_,bz rfl⟩,bq _ rfl⟩,fun _ _=>.inr ⟨rfl,⟨_,oK rfl⟩,bq _ rfl⟩,fun _ _=>.inr ⟨rfl,⟨_,lY rfl (eM _ _)⟩,bq _ rfl⟩,dW (.inr ⟨rfl,⟨_,bh rfl (s0.ld (k:=0) rfl bJ rfl)⟩,I⟩) (.inr ⟨rfl,⟨_,bh rfl (s.ld (k:=0) rfl bJ rfl)⟩,I⟩),dW (.inr ⟨rfl,⟨_,aU rfl rfl rfl (a_ aG (s0.aE (k:=1) rfl (bg _ _)))⟩,bq _ rfl⟩) (.inr ⟨rfl,⟨_,aU rfl rfl rfl (a_ aG (s.aE (k:=1) rfl (bg _ _)))⟩,bq _ rfl⟩),aa,aa⟩,?_⟩
  refine zK 7 rfl (zf rfl (eM _ _) (zl rfl (s.ld (k:=0) rfl bJ rfl) (zo rfl (aU rfl rfl rfl (a_ aG (s.aE (k:=1) rfl (bg _ _)))) (zn rfl (zf rfl (wE _ _) ?_)))))
  refine zS rfl (by exact s.ey (k:=0) rfl kW rfl (by decide) rfl rfl) (fun h s => ?_)
  exact zk 7 rfl (WP.ret (h2 _ _ rfl rfl rfl (fL.2 ⟨_,_,s⟩)))
noncomputable def woR : Code:=dB [1,1,1,1,1,1] ((Tryz.f80.body).getD .skip)
theorem Ga (hT:WR told){rs:List bZ}{qw:Nat}(hb:b=.sl qw 0 δ.log.length (.exact δ.log.length))(s:Sat h (pt q (.cells 6 (zQ p base b .bw 0 aH) false)::aZ b δ.log::aR p δ::S))(mg:δ.Ok)(xz:base+δ.log.length≤1099511627776)
 (I:δ.log=logB base rs++j)(uW:∀r∈rs,r.Ok)(hj:rD j){E:List (Nat×V)}{Q:Ex→List (Nat×V)→H→Prop}(hE:Has E [(0,.ptr p 0),(6,.ptr q 0)])
 (h1:∀E' h',(δ.cH (logB base rs).length).1≠0→look E' 2=some .cu→look E' 3=some (.int .i64 (δ.cH (logB base rs).length).1)→Sat h' (aR p (δ.cH (logB base rs).length).2::S)→Q .ret E' h')
 (h2:∀E' h',(δ.cH (logB base rs).length).1=0→look E' 2=some (.ptr q 0)→look E' 3=some (.int .i64 0)→Sat h' (b8 q p (iE base aH rs)::aR p (δ.cH (logB base rs).length).2::S)→Q .ret E' h'):
  WP ⟨Tryz.prog,told⟩ 134 woR E h Q:=by
 have hW:=hT.w
 have Ij:=mg.len
 have hlen:δ.log.length=(logB base rs).length+j.length:=by rw [I,bx]
 subst hb
 have PE:δ.log.take (logB base rs).length=logB base rs:=by rw [I,ke rfl]
 generalize ho:δ.cH (logB base rs).length=y at h1 h2
 unfold Dk.cH at ho
 refine WP.has hE (zK 5 rfl (WP.block ?_))
 refine M7 (pv:=.ptr p 0) hT Ij xz hj rs 0 [] [] .bw h _ _ uW (by rw [cZ]; exact I) rfl (by simp) ((s.ae [0,0]).oF.ae [1,1,0]) ⟨rfl,rfl,rfl,aa⟩ (fun E h sv hE s => ?_)
 rw [gH,dH] at hE
 rw [cZ] at s
 refine WP.has hE (zK 6 rfl (zf rfl (eM _ _) (zl rfl (s.ld (k:=0) rfl bJ rfl) (zo rfl (aU rfl rfl rfl (pG rfl aG)) ?_))))
 have J:(δ.dG (logB base rs).length)=if (logB base rs).length<δ.log.length then δ.qq (logB base rs).length else (0,δ):=rfl
 by_cases bF:(logB base rs).length<δ.log.length
 ·skip
  rw [aj bF] at J
  refine zt rfl (af rfl rfl aT) (by simp; omega) ?_
  refine zk 7 rfl (zc rfl (XW (n:=(logB base rs).length) hW (s.ae [3]) mg) ?_)
  rintro v h ⟨rfl,s⟩
  rw [←J] at s
  rw [←J]
  by_cases h0:(δ.dG (logB base rs).length).1=0
  ·skip
   rw [ah (not_not_intro h0)] at ho
   rw [h0]
   refine zk 5 rfl (zh rfl (af rfl rfl aN) (rfl) ?_)
   have ku:=(ik (s.buf (k:=2) rfl).view (b:=(logB base rs).length) (by omega)).1
   rw [abg] at ku
   refine zk 7 rfl (zf rfl (eM _ _) (zl rfl (s.ld (k:=1) rfl bJ rfl) (zm rfl (zo rfl (cf (p:=none) (q:=some (.int .i64 ((logB base rs).length:Int))) (m:=none) (p':=none) (q':=some (logB base rs).length) (m':=none) rfl rfl rfl rfl rfl (by simp [gI,bndV]) rfl ku) ?_))))
   refine zn rfl (zf rfl (eM _ _) (zS rfl (s.ey (k:=1) rfl gR rfl (by decide) rfl rfl) ?_))
   intro h s
   have s:=(s.ae [2]).hO (PZ (n:=(logB base rs).length) (by omega))
   rw [PE] at s
   exact zv (DL (l:=logB base rs) hW (s.ae [2,0,1,0]) mg.dG.aP ⟨rfl,rfl,aa⟩ ho.symm h1 h2)
  ·skip
   rw [aj h0] at ho
   rw [ho] at h0 s
   rw [ho]
   refine zk 5 rfl (zt rfl (af rfl rfl aN) (by simpa using h0) ?_)
   exact zk 8 rfl (WP.ret (h1 _ _ h0 rfl rfl (((s.del 3).del 2).del 1)))
 ·skip
  rw [ah bF] at J
  rw [J,ah (by simp)] at ho
  refine zh rfl (af rfl rfl aT) (by simp; omega) ?_
  refine zk 3 rfl ?_
  have e:δ.log=logB base rs:=by
   rw [dO (by omega)] at PE
   exact PE
  exact DL (l:=logB base rs) hW (by rw [e] at s; exact s) mg.aP ⟨rfl,rfl,aa⟩ ho.symm h1 h2
def P0 (mark:List Nat)(base aH:Nat): Prop:=(mark=[]∧base=1∧aH=0)∨mark=le 8 base++le 8 aH
theorem Ss (hT:WR told){rs:List bZ}(s:Sat h (aR p δ::S))(mg:δ.Ok)(hd:δ.dead=false)(hm:P0 δ.mark base aH)(I:base+δ.log.length≤1099511627776)(M8:aH<18446744073709551616)
 (J:δ.log=logB base rs++j)(uW:∀r∈rs,r.Ok)(hj:rD j):
  Call ⟨Tryz.prog,told⟩ 80 [.ptr p 0] h fun v h'=>((δ.cH (logB base rs).length).1≠0∧v=.bj [.cu,.int .i64 (δ.cH (logB base rs).length).1]∧Sat h' (aR p (δ.cH (logB base rs).length).2::S)) ∨
   ((δ.cH (logB base rs).length).1=0∧∃q,v=.bj [.ptr q 0,.int .i64 0]∧Sat h' (b8 q p (iE base aH rs)::aR p (δ.cH (logB base rs).length).2::S)):=by
 have hW:=hT.w
 have Ij:=mg.len
 have K1:δ.mark.length≤64:=by rcases hm with ⟨hm,_⟩ | hm <;> rw [hm] <;> simp [cy]
 refine Call.of_wp (hW.free _ rfl) Tryz.func80 rfl rfl (zK 8 rfl (zc rfl (Dd hW s K1) ?_))
 rintro v h (⟨ym,_,_⟩ | ⟨_,b0,rfl,s⟩)
 ·rw [hd] at ym; cases ym
 refine zk 10 rfl (zh rfl (af rfl rfl aN) (rfl) (zk 6 rfl (zo rfl (c_ rfl (by rw [Ti]; rfl)) ?_)))
 refine aA.b5 s rfl rfl rfl (fe rfl rfl) (fun Z0 h s => ?_)
 dsimp only [V.cells,List.take,List.length_cons,List.length_nil,Nat.reduceAdd,List.drop,List.cons_append,List.nil_append] at s
 refine zk 7 rfl ?_
 have s:=s.ae [2,0,0]
 dsimp only [bringA,getA,aQ] at s
 refine zc rfl (M6 hW s hd (by omega)) ?_
 rintro v h ⟨qw,rfl,s⟩
 refine zk 4 rfl (zf rfl (eM _ _) (zS rfl (s.ey (k:=2) rfl gR rfl (by decide) rfl rfl) ?_))
 intro h s
 dsimp only [Nat.reduceAdd,List.set,setA] at s
 refine zk 5 rfl (zh rfl (af rfl rfl aN) (rfl) (zk 7 rfl (zo rfl (aU rfl rfl rfl (a_ aG (s.aE (k:=3) rfl (bg _ _)))) (zv (WP.block (zg rfl ?_))))))
 rcases hm with ⟨hm,rfl,rfl⟩ | hm
 ·skip
  refine zt rfl (af rfl rfl eA) (by rw [hm]; rfl) ?_
  refine za rfl (zv (zi rfl (WP.skip ?_)))
  exact Ga hT rfl ((s.ae [2,0,0]).del 3) mg I J uW hj ⟨rfl,rfl,aa⟩ (fun E' h' h0 e1 e2 s'=>⟨aa,_,uJ e1 e2,.inl ⟨h0,rfl,s'⟩⟩) (fun E' h' h0 e1 e2 s'=>⟨aa,_,uJ e1 e2,.inr ⟨h0,_,rfl,s'⟩⟩)
 ·skip
  have h16:δ.mark.length=16:=by rw [hm]; simp [cy]
  refine zh rfl (af rfl rfl eA) (by rw [h16]; rfl) ?_
  refine zk 5 rfl (zt rfl (af rfl rfl eA) (by rw [h16]; rfl) ?_)
  refine zk 3 rfl ?_
  have w1:δ.mark.take 8=le 8 base:=by rw [hm,ke (by rw [cy])]
  have w2:δ.mark.drop 8=le 8 aH:=by rw [hm,sY (by rw [cy])]
  have hbv:=dz (s.buf (k:=3) rfl).view
  have s0:=s
  refine WP.drawn [some (0,3),some (0,4),ai,ai,ai,some (0,2),some (0,2),ai,ai,ai,ai,ai,ai,ai] rfl (by kernel_rfl) (by kernel_rfl) ?_
  refine zM rfl (zM rfl (zM rfl (zO rfl (cf (p:=none) (q:=some (.int .i64 8)) (m:=none) (p':=none) (q':=some 8) (m':=none) rfl rfl rfl rfl rfl rfl rfl (ik (s.buf (k:=3) rfl).view (b:=8) (by omega)).1) ?_)))
  refine aB.any rfl rfl rfl rfl (OpR.call rfl rfl rfl rfl (n4 hW s (k:=3) rfl (xw (bg _ _) (b:=8) (by omega)) (by rw [w1,cy]; decide))) ?_
  rintro v h' ⟨rfl,rfl⟩
  rw [w1,r7,gY (by omega)]
  refine zM rfl (zO rfl (cf (p:=some (.int .i64 8)) (q:=none) (m:=none) (p':=some 8) (q':=none) (m':=none) rfl rfl rfl rfl rfl rfl rfl (eO (s.buf (k:=3) rfl).view (a:=8) (by omega)).1) ?_)
  refine aB.any rfl rfl rfl rfl (OpR.call rfl rfl rfl rfl (n4 hW s (k:=3) rfl (rq (bg _ _) (a:=8) (by omega)) (by rw [w2,cy]; decide))) ?_
  rintro v h' ⟨rfl,rfl⟩
  rw [w2,r7,gY (by omega)]
  refine zN rfl (zF rfl (l7 _ _) (aB.i_ rfl rfl rfl (OpR.fO rfl rfl rfl (s.ey (k:=2) rfl vy rfl (by decide) rfl rfl)) ?_))
  rintro v h ⟨rfl,s⟩
  have s2:=s
  refine zN rfl (zF rfl (KI _ _) (aB.i_ rfl rfl rfl (OpR.fO rfl rfl rfl (s.ey (k:=2) rfl vy rfl (by decide) rfl rfl)) ?_))
  rintro v h ⟨rfl,s⟩
  have zT:=dz (eO (s0.buf (k:=3) rfl).view (a:=8) (by omega)).2.1
  refine aB.nil ⟨⟨fun _ _=>.inr ⟨rfl,⟨_,bz rfl⟩,bq _ rfl⟩,fun _ _=>.inr ⟨rfl,⟨_,bz rfl⟩,bq _ rfl⟩,aa,aa,aa,fun _ _=>.inr ⟨rfl,⟨_,bz rfl⟩,hbv⟩,dW (.inr ⟨rfl,⟨_,cf (p:=some (.int .i64 8)) (q:=none) (m:=none) (p':=some 8) (q':=none) (m':=none) rfl rfl rfl rfl rfl rfl rfl (eO (s0.buf (k:=3) rfl).view (a:=8) (by omega)).1⟩,zT⟩) (.inr ⟨rfl,⟨_,cf (p:=some (.int .i64 8)) (q:=none) (m:=none) (p':=some 8) (q':=none) (m':=none) rfl rfl rfl rfl rfl rfl rfl (eO (s0.buf (k:=3) rfl).view (a:=8) (by omega)).1⟩,zT⟩),aa,aa,aa,aa,aa,aa,aa,aa⟩,?_⟩
  exact Ga hT rfl ((s.ae [2,0,0]).del 3) mg I J uW hj ⟨rfl,rfl,aa⟩ (fun E' h' h0 e1 e2 s'=>⟨aa,_,uJ e1 e2,.inl ⟨h0,rfl,s'⟩⟩) (fun E' h' h0 e1 e2 s'=>⟨aa,_,uJ e1 e2,.inr ⟨h0,_,rfl,s'⟩⟩)
end
def bornE (n:Int)(c:Nat): cR→Nat
 | []=>c
 | e::l=>if e.1=n then e.2.2 else bornE n c l
def ot (n:Int)(z:V)(c:Nat): cR→cR
 | []=>[(n,z,c)]
 | e::l=>if e.1=n then e::l else e::ot n z c l
theorem Su {n:Int}{c:Nat}: ∀ {l:cR} {b:Nat},b≤c→gB c b l→b≤bornE n c l:=by
 intro l
 induction l with
 | nil=>intro b h _; exact h
 | cons e l J =>
  intro b h I
  simp only [bornE]
  by_cases he:e.1=n
  ·rw [aj he]; exact I.1
  ·rw [ah he]
   have:=J (b:=e.2.2+1) I.2.1 I.2.2
   have:=I.1
   omega
theorem Lm {n:Int}{z:V}{c:Nat}: ∀ {l:cR},lookE n l=none→ot n z c l=l++[(n,z,c)]∧bornE n c l=c:=by
 intro l
 induction l with
 | nil=>intro _; exact ⟨rfl,rfl⟩
 | cons e l I =>
  intro h
  simp only [lookE] at h
  by_cases he:e.1=n
  ·rw [aj he] at h; cases h
  ·rw [ah he] at h
   have g:=I h
   exact ⟨by simp only [ot,ah he,g.1,fg],by simp only [bornE,ah he,g.2]⟩
theorem Vr {n:Int}{z u:V}{c:Nat}: ∀ {l:cR},lookE n l=some u→ot n z c l=l:=by
 intro l
 induction l with
 | nil=>intro h; cases h
 | cons e l I =>
  intro h
  simp only [lookE] at h
  by_cases he:e.1=n
  ·simp only [ot,aj he]
  ·rw [ah he] at h
   simp only [ot,ah he,I h]
theorem P3 {n:Int}{c:Nat}: ∀ {l:cR} {i j:Nat} {u:V},idxE n l i=some (j,u)→i≤j∧nth (l.map gO) (j-i)=some (.int .i64 n,u,bornE n c l):=by
 intro l
 induction l with
 | nil=>intro i j u h; cases h
 | cons e l I =>
  intro i j u h
  simp only [idxE] at h
  by_cases he:e.1=n
  ·rw [aj he] at h
   injection h with h; injection h with J h2
   subst J; subst h2
   refine ⟨aD _,?_⟩
   simp only [bornE,aj he,td,b6,nth,gO,he]
   rfl
  ·rw [ah he] at h
   obtain ⟨g1,g2⟩:=I h
   refine ⟨by omega,?_⟩
   simp only [bornE,ah he,b6]
   rw [show j-i=(j-(i+1))+1 by omega]
   simpa [fF] using g2
theorem Vs {n:Int}{z v:V}{c:Nat}: ∀ {l:cR} {b i:Nat},b≤c→gB c b l→∃j,findBorn ((ot n z c l).map gO) (bornE n c l:Int) i=some (i+j)∧setNth ((ot n z c l).map gO) j (fun e=>(e.1,v,e.2.2))=(jG n v c l).map gO:=by
 intro l
 induction l with
 | nil =>
  intro b i h _
  refine ⟨0,?_,rfl⟩
  simp only [ot,bornE,b6,AD,gO,findBorn,lz,ag,gH]
 | cons e l J =>
  intro b i h I
  by_cases he:e.1=n
  ·refine ⟨0,?_,?_⟩
   ·simp only [ot,bornE,aj he,b6,gO,findBorn,lz,ag,gH]
   ·simp only [ot,jG,aj he,b6]
    rfl
  ·obtain ⟨j,g1,g2⟩:=J (b:=e.2.2+1) (i:=i+1) I.2.1 I.2.2
   have ZF:=Su (n:=n) (b:=e.2.2+1) I.2.1 I.2.2
   refine ⟨j+1,?_,?_⟩
   ·simp only [ot,bornE,ah he,b6,findBorn]
    have:intBeq (((gO e).2.2:Nat):Int) (bornE n c l:Int)=false:=by rw [k_]; exact eU (by show ¬((e.2.2:Nat):Int)=_; omega)
    rw [this,az,g1]
    congr 1; omega
   ·simp only [ot,jG,ah he,b6,setNth]
    rw [show Nat.beq (j+1) 0=false from rfl,az,sU,g2]
section
variable {P:Program} {h h':H} {S:List au} {v z:V} {t kt et:TypeId} {k:IntKind} {id c j:Nat} {l:cR} {n:Int}
theorem P4 : ∀ {S:List au} {j:Nat} {A:au},getA S j=some A→setA S j A=S:=by
 intro S
 induction S with
 | nil=>intro j A h; cases h
 | cons B S I =>
  intro j A h
  cases j with
  | zero=>simp only [getA] at h; injection h with h; subst h; rfl
  | succ j=>simp only [getA] at h; simp only [setA,I h]
theorem Sat.entry (s:Sat h S)(J:getA S j=some (gE id l c))(hu:P.underlying t=some (.map kt et))(hk:P.underlying kt=some (.int k))(hz:zeroT P et=some z):
  ∃w h',mapEntryV P h t (.map id) (.int .i64 n)=some (.bj [w,.int .i64 (bornE n c l:Int)],h')∧Sat h' (setA S j (gE id (ot n z c l) (clkE n c l))):=by
 have hg:=s.row J
 simp only [mapEntryV,hu,hk,hz,hg,keyBeq,dN,ag,tF]
 have I:=pH (n:=n) l 0
 cases hq:idxE n l 0 with
 | none =>
  rw [hq] at I
  have I:lookE n l=none:=I.symm
  refine ⟨z,h.put id (some (.map ((ot n z c l).map gO) (clkE n c l))),?_,s.put J⟩
  rw [(Lm (z:=z) (c:=c) I).1,(Lm (z:=z) (c:=c) I).2,clkE,I,Ef]
  rfl
 | some q =>
  obtain ⟨i,u⟩:=q
  rw [hq] at I
  have I:lookE n l=some u:=I.symm
  have hb:=(P3 (c:=c) hq).2
  rw [kf] at hb
  refine ⟨u,h,?_,?_⟩
  ·simp only [hb]
  ·rw [Vr I,clkE,I]
   simp only
   rw [P4 J]
   exact s
theorem Sat.entryStore (s:Sat h S)(I:getA S j=some (gE id (ot n z c l) (clkE n c l)))(hb:gB c 0 l):
  ∃h',entryStoreV h (.map id) (.int .i64 (bornE n c l:Int)) v=some h'∧Sat h' (setA S j (gE id (jG n v c l) (clkE n c l))):=by
 have hg:=s.row I
 obtain ⟨i,J,g2⟩:=Vs (n:=n) (z:=z) (v:=v) (i:=0) (ew c) hb
 refine ⟨h.put id (some (.map ((jG n v c l).map gO) (clkE n c l))),?_,s.put I⟩
 rw [dH] at J
 simp only [entryStoreV,hg,J,g2]
end
theorem OpR.mapEntry {C:cL}{E:List (Nat×V)}{h:H}{o:Oper}{t:TypeId}{x y:Operand}{a b v:V}{h₁:H}(I:o.op=.mapEntry t x y)(hx:lookO E x=some a)(hy:lookO E y=some b)
 (ho:mapEntryV C.P h t a b=some (v,h₁)): OpR C E h o fun w h'=>w=v∧h'=h₁ :=
 ⟨v,h₁,⟨rfl,rfl⟩,fun env J=>⟨0,by simp only [evOp,I,bP J hx,bP J hy,ho]⟩⟩
theorem OpR.entryStore {C:cL}{E:List (Nat×V)}{h:H}{o:Oper}{t:TypeId}{x y z:Operand}{a b v:V}{S':List au}(I:o.op=.entryStore t x y z)(hx:lookO E x=some a)(hy:lookO E y=some b)(hz:lookO E z=some v)
 (ho:∃h₁,entryStoreV h a b v=some h₁∧Sat h₁ S'): OpR C E h o fun _ h₁=>Sat h₁ S':=by
 obtain ⟨h₁,e1,e2⟩:=ho
 exact ⟨bV,h₁,e2,fun env J=>⟨0,by simp only [evOp,I,bP J hx,bP J hy,bP J hz,e1,nh]⟩⟩
abbrev I2 := List (Int×List Nat)
def bufsA : cR→I2→au
 | [],[]=>.pu True
 | e::l,x::m=>star [.pu (e.1=x.1),aZ e.2.1 x.2,bufsA l m]
 | _,_=>.pu False
def qt (n:Int): cR→I2→au
 | [],[]=>.pu True
 | e::l,x::m=>if e.1=n then star [.pu (e.1=x.1),bufsA l m] else star [.pu (e.1=x.1),aZ e.2.1 x.2,qt n l m]
 | _,_=>.pu False
section
variable {h:H} {n:Int} {u:V} {x:List Nat} {c:Nat}
theorem P5 : ∀ {l:cR} {m:I2} {S:List au},lookE n l=none→Sat h (bufsA l m::S)→lookL n m=none∧Sat h (qt n l m::S):=by
 intro l
 induction l with
 | nil=>intro m S _ s; cases m with
  | nil=>exact ⟨rfl,s⟩
  | cons x m=>exact (eo.1 s).1.elim
 | cons e l ih=>intro m S I s; cases m with
  | nil=>exact (eo.1 s).1.elim
  | cons x m =>
   obtain ⟨J,s⟩:=eo.1 (bQ.1 s)
   simp only [lookE] at I
   by_cases he:e.1=n
   ·rw [aj he] at I; cases I
   ·rw [ah he] at I
    obtain ⟨g1,g2⟩:=ih (S:=aZ e.2.1 x.2::S) I (s.ae [1])
    refine ⟨?_,?_⟩
    ·simp only [lookL,←J,ah he,g1]
    ·simp only [qt,ah he]
     exact bQ.2 (eo.2 ⟨J,g2.ae [1]⟩)
theorem P6 : ∀ {l:cR} {m:I2} {S:List au},lookE n l=some u→Sat h (bufsA l m::S)→∃x,lookL n m=some x∧Sat h (aZ u x::qt n l m::S):=by
 intro l
 induction l with
 | nil=>intro m S I s; cases I
 | cons e l ih=>intro m S I s; cases m with
  | nil=>exact (eo.1 s).1.elim
  | cons x m =>
   obtain ⟨J,s⟩:=eo.1 (bQ.1 s)
   simp only [lookE] at I
   by_cases he:e.1=n
   ·rw [aj he] at I
    injection I with I
    subst I
    refine ⟨x.2,by simp only [lookL,←J,aj he],?_⟩
    simp only [qt,aj he]
    have s2:Sat h (star [.pu (e.1=x.1),bufsA l m]::aZ e.2.1 x.2::S):=bQ.2 (eo.2 ⟨J,s.ae [1]⟩)
    exact s2.ae [1]
   ·rw [ah he] at I
    obtain ⟨y,g1,g2⟩:=ih (S:=aZ e.2.1 x.2::S) I (s.ae [1])
    refine ⟨y,by simp only [lookL,←J,ah he,g1],?_⟩
    simp only [qt,ah he]
    have s2:Sat h (star [.pu (e.1=x.1),aZ e.2.1 x.2,qt n l m]::aZ u y::S):=bQ.2 (eo.2 ⟨J,g2.ae [2,1]⟩)
    exact s2.ae [1]
theorem Sv : ∀ {l:cR} {m:I2} {S:List au},Sat h (aZ u x::qt n l m::S)→Sat h (bufsA (jG n u c l) (cB n x m)::S):=by
 intro l
 induction l with
 | nil=>intro m S s; cases m with
  | nil=>exact bQ.2 (eo.2 ⟨rfl,s⟩)
  | cons y m=>exact (eo.1 s.drop).1.elim
 | cons e l J=>intro m S s; cases m with
  | nil=>exact (eo.1 s.drop).1.elim
  | cons y m =>
   by_cases he:e.1=n
   ·simp only [qt,aj he] at s
    obtain ⟨I,s⟩:=eo.1 (bQ.1 (s.ae [1]))
    simp only [jG,cB,←I,aj he]
    exact bQ.2 (eo.2 ⟨he,(s.ae [1,0])⟩)
   ·simp only [qt,ah he] at s
    obtain ⟨I,s⟩:=eo.1 (bQ.1 (s.ae [1]))
    simp only [jG,cB,←I,ah he]
    have s2:=J (S:=aZ e.2.1 y.2::S) (s.ae [2,1])
    exact bQ.2 (eo.2 ⟨I,s2.ae [1]⟩)
theorem J8 : ∀ {l:cR} {m:I2} {S:List au},Sat h (bufsA l m::S)→Sat h (eW (fun v b=>.cx v b) l m::S):=by
 intro l
 induction l with
 | nil=>intro m S s; cases m with
  | nil=>exact s
  | cons x m=>exact (eo.1 s).1.elim
 | cons e l I=>intro m S s; cases m with
  | nil=>exact (eo.1 s).1.elim
  | cons x m =>
   obtain ⟨J,s⟩:=eo.1 (bQ.1 s)
   have s2:=I (S:=BB e.2.1 x.2::S) (s.fU.ae [1])
   have s3:=(s2.ae [1]).two (C:=eW (fun v b=>.cx v b) (e::l) (x::m)) (aW.cx _ _) (aW.HG (fun _ _=>aW.cx _ _) _ _) fun a b h1 h2=>⟨⟨J,h1⟩,h2⟩
   exact s3
end
end Go.Proofs.YtefepnnfphdkpaaGreat.Am
