/- SpacePlays: a part of its proof; conditions: its statement's. -/
import Derived.Test.YtefepnnfphdkpaaGreatE27
set_option linter.defProp false
namespace Go.Proofs.YtefepnnfphdkpaaGreat.Am
open Go
def o7:=@Tryz.underlying24
def Lg.fresh : Lg:={ base:=1,b:=[],bD:=[],forced:=0,check:=0 }
theorem QI {P:Program}{E:List (Nat×V)}{h:H}{a b c t:Nat}{p v w x:V}(I:look E a=some p)(J:loadV P h t p=some v)(h2:look E b=some w)(h3:look E c=some x): jA P E h [.cell a t,.tmp b,.tmp c]=some (.aY [v,w,x]):=by
 simp only [jA,mapO,resE,I,J,h2,h3]
section
variable {told:cZ} {h:H} {S:List au} {X Y:au} {r k q p bR a g aO:Nat} {op v x u wh di:V} {l b dD data dI:List Nat} {now:List (Int×List Nat)} {bX:Bool} {ε:aE} {μ:Lg} {δ:Dk}
theorem HF (hT:W told)(s:Sat h (aL p δ::S))(hd:δ.dead=false)(hm:δ.mark=[])(hl:δ.log=[])(hc:δ.bT=0):
  Call ⟨Tryz.prog,told⟩ 80 [.ptr p 0] h fun v h'=>∃q,v=.aY [.ptr q 0,.int .i64 0]∧Sat h' (bx q p Lg.fresh::aL p δ::S):=by
 refine Call.of_wp (hT.free _ rfl) Tryz.func80 rfl rfl (zK 8 rfl (zc rfl (JY hT s (by rw [hm]; decide)) ?_))
 rintro v h (⟨I,_,_⟩ | ⟨_,b0,rfl,s⟩)
 ·rw [hd] at I; cases I
 rw [hm] at s
 refine zk 10 rfl (zh rfl (af rfl rfl aG) (rfl) (zk 6 rfl (zo rfl (dA rfl (by rw [VN]; rfl)) ?_)))
 refine az.cz s rfl rfl rfl (fc rfl rfl) (fun p23 h s => ?_)
 dsimp only [V.cells,List.take,List.length_cons,List.length_nil,Nat.reduceAdd,List.drop,List.cons_append,List.nil_append] at s
 refine zk 7 rfl ?_
 have s:=s.ae [2,0,0]
 dsimp only [bringA,getA,bf] at s
 refine zc rfl (RJ hT s (by rw [hl]; decide)) ?_
 rintro v h (⟨I,_,_⟩ | ⟨_,b1,rfl,s⟩)
 ·rw [hd] at I; cases I
 rw [hl] at s
 have hv:=(s.buf (k:=0) rfl).view.cells
 refine zk 4 rfl (zf rfl (jM _ _) (zS rfl (s.gO (k:=2) rfl jT rfl (by decide) hv.1 hv.2) ?_))
 intro h s
 dsimp only [Nat.reduceAdd,List.set,setA] at s
 refine za rfl (zv (zg rfl (zm rfl (zh rfl (af rfl rfl aG) (rfl) (zv (zj rfl (WP.skip (zw (zg rfl (zm rfl (zo rfl (aT rfl rfl rfl (by exact bO aV (s.aU (k:=3) rfl (bz _ _)))) ?_)))))))))))
 refine zv (WP.block (zg rfl (zt rfl (af rfl rfl dh) (rfl) (za rfl (zv (zi rfl (WP.skip (zg rfl (za rfl (zv (zw (WP.block (WP.loop (zw (zg rfl (zk 3 rfl (zf rfl (jM _ _) (zl rfl (by exact s.ld (k:=2) rfl cS rfl) ?_))))))))))))))))))
 refine zo rfl (aT rfl rfl rfl (bO aV (s.aU (k:=0) rfl (bz _ _)))) (zh rfl (af rfl rfl aK) (rfl) (zk 2 rfl (WP.exit (zK 6 rfl (zf rfl (jM _ _) (zl rfl (s.ld (k:=2) rfl cS rfl) (zo rfl (aT rfl rfl rfl (bO aV (s.aU (k:=0) rfl (bz _ _)))) (zh rfl (af rfl rfl aK) (rfl) (zk 5 rfl ?_)))))))))
 have s0:=s
 have J:=gY (s.buf (k:=0) rfl).view
 refine WP.drawn [none,none,some (0,2),some (0,2),some (0,2),some (0,2),some (0,2),none] rfl (by kernel_rfl) (by kernel_rfl) ?_
 refine zM rfl (aA.any rfl rfl rfl rfl (OpR.call rfl rfl rfl rfl (Hh hT (s.ae [1]))) ?_)
 rintro v h' ⟨rfl,rfl⟩
 refine zM rfl (zN rfl (zF rfl (jM _ _) (zL rfl (s.ld (k:=2) rfl cS rfl) (zO rfl (aT rfl rfl rfl (bO aV (s.aU (k:=0) rfl (bz _ _)))) (aA.lK rfl rfl rfl rfl (af rfl rfl aK) (by rw [show δ.FG=0 from hc]; rfl) ?_)))))
 refine aA.nil ⟨⟨aa,aa,fun _ _=>.inr ⟨rfl,⟨_,bF rfl⟩,aS _ rfl⟩,fun _ _=>.inr ⟨rfl,⟨_,ni rfl⟩,aS _ rfl⟩,fun _ _=>.inr ⟨rfl,⟨_,jS rfl (jM _ _)⟩,aS _ rfl⟩,dB (.inr ⟨rfl,⟨_,aR rfl (s0.ld (k:=2) rfl cS rfl)⟩,J⟩) (.inr ⟨rfl,⟨_,aR rfl (s.ld (k:=2) rfl cS rfl)⟩,J⟩),dB (.inr ⟨rfl,⟨_,aT rfl rfl rfl (bO aV (s0.aU (k:=0) rfl (bz _ _)))⟩,aS _ rfl⟩) (.inr ⟨rfl,⟨_,aT rfl rfl rfl (bO aV (s.aU (k:=0) rfl (bz _ _)))⟩,aS _ rfl⟩),aa,aa⟩,?_⟩
 refine zK 7 rfl (zf rfl (jM _ _) (zl rfl (s.ld (k:=2) rfl cS rfl) (zo rfl (aT rfl rfl rfl (bO aV (s.aU (k:=0) rfl (bz _ _)))) (zn rfl (zf rfl (r_ _ _) ?_)))))
 refine zS rfl (by exact s.gO (k:=2) rfl kA rfl (by decide) rfl rfl) (fun h s => ?_)
 refine zk 7 rfl (WP.ret ⟨aa,_,rfl,?_⟩)
 have s1:=(s.del 3).nI (k:=1)
 refine ⟨_,rfl,dr.2 ⟨b1,.bu,?_⟩⟩
 exact s1.ae [3,1,0]
theorem MA (J:W told)(s:Sat h (bx q p μ::S))(I:μ.Ok): Call ⟨Tryz.prog,told⟩ 84 [.ptr q 0,.int .u64 ((μ.base:Int)+(μ.b.length:Int))] h fun v h'=>v=.aY [.agg (oD 0 0 0 0 .bu .bu),.int .u64 0,.int .i64 17]∧Sat h' (bx q p μ::S):=by
 refine Call.of_wp (J.free _ rfl) Tryz.func84 rfl rfl (zg rfl ?_)
 refine az.cz s rfl rfl rfl (cy N_) (fun p4 h s => ?_)
 refine zk 4 rfl (WP.block (zK 4 rfl ?_))
 have s:=s.ae [1]
 refine zc rfl (qa J s I.size) ?_
 rintro v h' ⟨rfl,rfl⟩
 refine zt rfl (af rfl rfl dh) (by simp) ?_
 refine zk 5 rfl (zo rfl (dA rfl (by rw [JI]; rfl)) ?_)
 refine zS rfl (s.eZ (j:=1) rfl vV rfl rfl) (fun h s => ?_)
 refine zk 3 rfl ?_
 refine WP.ret ⟨aa,_,QI rfl (s.bZ (k:=1) rfl CR vV) rfl rfl,?_⟩
 exact ⟨rfl,s.del 1⟩
theorem O6 (J:W told){n:Nat}(s:Sat h (bx q p μ::S))(I:μ.Ok)(hn:n<18446744073709551616)(dz:n≠μ.base+μ.b.length)(A6:μ.hasB n=false): Call ⟨Tryz.prog,told⟩ 84 [.ptr q 0,.int .u64 (n:Int)] h fun v h'=>v=.aY [.agg (oD 0 0 0 0 .bu .bu),.int .u64 0,.int .i64 1]∧Sat h' (bx q p μ::S):=by
 refine Call.of_wp (J.free _ rfl) Tryz.func84 rfl rfl (zg rfl ?_)
 refine az.cz s rfl rfl rfl (cy N_) (fun p4 h s => ?_)
 refine zk 4 rfl (WP.block (zK 4 rfl ?_))
 have s:=s.ae [1]
 refine zc rfl (qa J s I.size) ?_
 rintro v h' ⟨rfl,rfl⟩
 refine zh rfl (af rfl rfl dh) (by simp; omega) ?_
 refine zk 7 rfl (zc rfl (C6 (n:=n) J s I hn) ?_)
 rintro v h' ⟨rfl,rfl⟩
 refine zo rfl (cX rfl rfl) (zk 2 rfl (WP.JG rfl (by rw [A6]; rfl) ?_))
 refine zg rfl (zo rfl (dA rfl (by rw [JI]; rfl)) ?_)
 refine zS rfl (s.eZ (j:=1) rfl vV rfl rfl) (fun h s => ?_)
 refine zk 3 rfl ?_
 refine WP.ret ⟨aa,_,QI rfl (s.bZ (k:=1) rfl CR vV) rfl rfl,?_⟩
 exact ⟨rfl,s.del 1⟩
theorem Kh (hT:W told){n:Nat}(s:Sat h (bx q p μ::S))(J:μ.Ok)(hn:n<18446744073709551616)(I:n=μ.base+μ.b.length∨μ.hasB n=false): Call ⟨Tryz.prog,told⟩ 84 [.ptr q 0,.int .u64 (n:Int)] h fun v h'=>∃e:Int,e≠0∧v=.aY [.agg (oD 0 0 0 0 .bu .bu),.int .u64 0,.int .i64 e]∧Sat h' (bx q p μ::S):=by
 by_cases he:n=μ.base+μ.b.length
 ·have:=MA hT s J
  rw [show ((μ.base:Int)+(μ.b.length:Int))=((n:Nat):Int) by omega] at this
  exact this.mono fun v h' ⟨h1,h2⟩=>⟨17,by decide,h1,h2⟩
 ·rcases I with I | I
  ·exact absurd I he
  ·exact (O6 hT s J hn he I).mono fun v h' ⟨h1,h2⟩=>⟨1,by decide,h1,h2⟩
end
section
variable {told:cZ} {h:H} {S:List au} {X Y:au} {r k q p bR a g aO:Nat} {op v x u wh di:V} {l b dD data dI:List Nat} {now:List (Int×List Nat)} {bX:Bool} {ε:aE} {μ:Lg} {δ:Dk}
theorem Ki (I:W told){n:Nat}(s:Sat h (dx a p q r op data aO::bx q p μ::S))(J:μ.Ok)(hn:n<18446744073709551616)(A6:n=μ.base+μ.b.length∨μ.hasB n=false):
  Call ⟨Tryz.prog,told⟩ 87 [.ptr a 0,.int .u64 (n:Int)] h fun v h'=>v=.int .i64 0∧Sat h' (dx a p q r op data aO::bx q p μ::S):=by
 obtain ⟨dv,s⟩:=b5.1 s
 refine Call.of_wp (I.free _ rfl) Tryz.func87 rfl rfl (zK 6 rfl ?_)
 refine az.CN s rfl rfl rfl rfl (fun p18 h s => ?_)
 refine az.CN s rfl rfl rfl rfl (fun p19 h s => ?_)
 refine zo rfl (dA rfl (by rw [VX]; rfl)) ?_
 refine az.cz s rfl rfl rfl (fc rfl rfl) (fun Xm h s => ?_)
 refine zk 5 rfl (zo rfl (Et rfl rfl) (zk 8 rfl (WP.block (WP.loop (WP.block (zK 4 rfl (zf rfl (mw _ _) (zl rfl (s.ld (k:=3) rfl pT rfl) (zm rfl ?_)))))))))
 have s1:=s.ae [5]
 refine zc rfl (Kh (n:=n) I s1 J hn A6) ?_
 rintro v h ⟨e,he,rfl,s⟩
 refine zk 4 rfl ?_
 refine az.cz s rfl rfl rfl (cy N_) (fun p8 h s => ?_)
 refine zS rfl (s.eZ (j:=0) rfl vV rfl rfl) (fun h s => ?_)
 refine zk 7 rfl (zt rfl (af rfl rfl aG) (by simp; exact he) ?_)
 have s:=sY (f:=fun v (b:List Nat)=>.c5 v b) (s.ae [4])
 refine zk 2 rfl (WP.exit (zK 5 rfl (zf rfl (Iv _ _) (zl rfl (s.ld (k:=3) rfl mI rfl) (zc rfl (AW I s) ?_)))))
 rintro v h ⟨kb,rfl,s⟩
 refine zc rfl (qH I s (by decide) (by decide) (by simp)) ?_
 intro kv h s
 refine zo rfl (aT rfl rfl rfl (s.eY (n:=0) (j:=0) rfl rfl (by decide) cM)) ?_
 exact zk 2 rfl (WP.block (WP.loop (zg rfl (zh rfl (af rfl rfl aK) (rfl) (zk 3 rfl (WP.exit (zK 5 rfl (zf rfl (Iv _ _) (zl rfl (s.ld (k:=5) rfl mI rfl) (zo rfl (aT rfl rfl rfl (FA (s.ae [2]) nK)) (zt rfl (af rfl rfl dh) (rfl) (zk 6 rfl (WP.ret ⟨aa,_,rfl,rfl,((((((b5.2 ⟨dv,s.ae [7,7,4]⟩).del 7).del 6).del 5).del 4).del 3).del 2⟩)))))))))))))
theorem Lg.Gf : Lg.fresh.Ok:=⟨by decide,by decide,by simp [Lg.fresh],List.Pairwise.nil,by decide,by decide,by decide⟩
theorem HG (I:W told){n:Nat}(s:Sat h (aL p δ::S))(h1:1≤n)(h2:n≤1024)(J:δ.dead=false)(hm:δ.mark=[])(hl:δ.log=[])(hc:δ.bT=0):
  Call ⟨Tryz.prog,told⟩ 35 [.ptr p 0,.int .i64 (n:Int)] h fun v h'=>∃a q r,v=.aY [.ptr a 0,.int .i64 0]∧Sat h' (dx a p q r .b7 [] 0::cK r p q (Pl.fresh n)::bx q p Lg.fresh::aL p δ::S):=by
 refine Call.of_wp (I.free _ rfl) Tryz.func35 rfl rfl (zK 9 rfl (zh rfl (af rfl rfl aK) (by simp <;> omega) ?_))
 refine zk 2 rfl (zh rfl (af rfl rfl er) (by simp <;> omega) ?_)
 refine zk 7 rfl (zc rfl (HF I s J hm hl hc) ?_)
 rintro v h ⟨q,rfl,s⟩
 refine zk 10 rfl (zh rfl (af rfl rfl aG) (rfl) (zk 8 rfl (zc rfl (RX (p:=p) (q:=q) (n:=n) I s) ?_)))
 rintro v h (⟨hn,_,_⟩ | ⟨_,_,r,rfl,s⟩)
 ·omega
 rw [bP] at s
 refine zk 10 rfl (zh rfl (af rfl rfl aG) (rfl) (zk 8 rfl (zo rfl (dA rfl (by rw [VI]; rfl)) ?_)))
 refine az.cz s rfl rfl rfl (fc rfl rfl) (fun p44 h s => ?_)
 refine zk 5 rfl (zc rfl (DQ I (s.ae [2])) ?_)
 rintro v h' ⟨rfl,rfl⟩
 refine zk 6 rfl (zc rfl (Hj I (s.ae [2])) ?_)
 rintro v h' ⟨rfl,rfl⟩
 refine zk 5 rfl (zh rfl (af rfl rfl aG) (rfl) (zk 8 rfl ?_))
 have s1:=b5.2 ⟨.bu,(s.tV).ae [1,0]⟩
 refine zc rfl (Ki (n:=1) I (s1.ae [0,1]) Lg.Gf (by decide) (.inl rfl)) ?_
 rintro v h ⟨rfl,s⟩
 exact zk 5 rfl (zh rfl (af rfl rfl aG) (rfl) (zk 9 rfl (WP.ret ⟨aa,_,rfl,_,q,r,rfl,s.ae [0,1,0]⟩)))
end
def kH (ε:aE): Int×aE:=if ε.2.2.dead=true then (9,ε) else if (writeAllF (bw ε.1.aI) ε).1≠0 then writeAllF (bw ε.1.aI) ε else
 ((eE (writeAllF (bw ε.1.aI) ε).2.1 (writeAllF (bw ε.1.aI) ε).2.2.2).1,((eE (writeAllF (bw ε.1.aI) ε).2.1 (writeAllF (bw ε.1.aI) ε).2.2.2).2.1,((writeAllF (bw ε.1.aI) ε).2.2.1,(eE (writeAllF (bw ε.1.aI) ε).2.1 (writeAllF (bw ε.1.aI) ε).2.2.2).2.2)))
section
variable {told:cZ} {h:H} {S:List au} {X Y:au} {r k q p bR a g aO:Nat} {op v x u wh di:V} {l b dD data dI:List Nat} {now:List (Int×List Nat)} {bX:Bool} {ε:aE} {μ:Lg} {δ:Dk}
theorem O7 (I:W told)(s:Sat h (dx a p q r op data aO::S)): Call ⟨Tryz.prog,told⟩ 71 [.ptr a 0] h fun v h'=>v=.ptr p 0∧h'=h:=by
 obtain ⟨dv,s⟩:=b5.1 s
 exact Call.of_wp (I.free _ rfl) Tryz.func71 rfl rfl (zK 8 rfl (zf rfl (r9 _ _) (zl rfl (s.ld (k:=0) rfl jU rfl) (zk 2 rfl (WP.ret ⟨aa,_,rfl,rfl,rfl⟩)))))
theorem O8 (J:W2 told)(s:Sat h (dx a p q r .b7 data aO::cK r p q ε.1::bx q p ε.2.1::aL p ε.2.2::S))(fF:nT ε)(hw:ε.2.2.waiting.length+ε.1.aI.length≤268435456)(hm:ε.1.aI.length≤1048576)(hk:∀n∈ε.1.aI.map (·.1),(Lit.int .i64 n).wf=true)
 (wQ:(writeAllF (bw ε.1.aI) ε).2.2.2.Ok)(I:∀e∈(writeAllF (bw ε.1.aI) ε).2.2.2.now,0≤e.1∧e.1<(writeAllF (bw ε.1.aI) ε).2.2.2.aM.length):
  Call ⟨Tryz.prog,told⟩ 39 [.ptr a 0] h fun v h'=>v=.int .i64 (kH ε).1∧Sat h' (dx a p q r .b7 data aO::cK r p q (kH ε).2.1::bx q p (kH ε).2.2.1::aL p (kH ε).2.2.2::S):=by
 have s0:=s
 obtain ⟨dv,s⟩:=b5.1 s
 refine Call.of_wp (J.w.free _ rfl) Tryz.func39 rfl rfl (zK 5 rfl (WP.block (zK 4 rfl (zf rfl (ow _ _) (zl rfl (s.ld (k:=0) rfl CO rfl) (zh rfl (af rfl rfl (Kc jZ)) (rfl) (zk 7 rfl (zf rfl (r9 _ _) (zl rfl (s.ld (k:=0) rfl jU rfl) (zc rfl (v8 J.w (s.ae [4])) ?_))))))))))
 rintro v h ⟨rfl,rfl⟩
 refine zk 2 rfl ?_
 cases hd:ε.2.2.dead with
 | true =>
  refine zK 5 rfl (WP.ret ⟨aa,_,rfl,?_⟩)
  rw [kH,aq hd]
  exact ⟨rfl,s0⟩
 | false =>
  refine zj rfl (WP.skip (zw (zg rfl (zk 2 rfl (zf rfl (nk _ _) (zl rfl (by exact s.ld (k:=0) rfl rz rfl) ?_))))))
  refine zc rfl (Hw J.w (s.ae [2,2,2]) fF hw hm hk) ?_
  rintro v h ⟨rfl,s⟩
  dsimp only [bringA,getA,bf] at s
  refine zk 5 rfl ?_
  by_cases he:(writeAllF (bw ε.1.aI) ε).1=0
  ·skip
   refine zh rfl (af rfl rfl aG) (by simp; exact he) ?_
   refine zv (zj rfl (WP.skip (zg rfl (zk 2 rfl (zf rfl (nk _ _) (zl rfl (by exact s.ld (k:=3) rfl rz rfl) ?_))))))
   refine zc rfl (OV J (s.ae [0,1]) wQ I) ?_
   rintro v h ⟨rfl,s⟩
   refine zk 2 rfl (WP.ret ⟨aa,_,rfl,?_⟩)
   rw [kH,ah (by rw [hd]; decide),ah (by simpa using he)]
   exact ⟨rfl,b5.2 ⟨dv,s.ae [3,3,0,1,0]⟩⟩
  ·skip
   refine zt rfl (af rfl rfl aG) (by simp; exact he) ?_
   refine zk 7 rfl (WP.ret ⟨aa,_,rfl,?_⟩)
   rw [kH,ah (by rw [hd]; decide),aq he]
   exact ⟨rfl,b5.2 ⟨dv,s.ae [3,3,0,0,0]⟩⟩
end
section
variable {told:cZ} {h:H} {S:List au} {X Y:au} {r k q p bR a g aO:Nat} {op v x u wh di:V} {l b dD data dI:List Nat} {now:List (Int×List Nat)} {bX:Bool} {ε:aE} {μ:Lg} {δ:Dk}
theorem Kj (I:W told){n m f:Nat}(s:Sat h S)(h1:1≤n)(h2:n≤65536)(h3:m≤16777216)(J:1≤f)(h5:f≤1024):
  Call ⟨Tryz.prog,told⟩ 30 [.int .i64 (n:Int),.int .i64 (m:Int),.int .i64 (f:Int)] h fun v h'=>∃p a q r,v=.aY [.ptr p 0,.ptr a 0] ∧
   Sat h' (dx a p q r .b7 [] 0::cK r p q (Pl.fresh f)::bx q p Lg.fresh::aL p (Dk.fresh n m)::S):=by
 refine Call.of_wp (I.free _ rfl) Tryz.func30 rfl rfl (zK 9 rfl (zc rfl (RM (n:=(n:Int)) (m:=(m:Int)) I s) ?_))
 rintro v h (⟨hn,_,_⟩ | ⟨_,_,_,_,p,rfl,s⟩)
 ·omega
 rw [bP,bP] at s
 refine zk 10 rfl (zh rfl (af rfl rfl aG) (rfl) (zk 2 rfl (zh rfl (af rfl rfl (wm Tryz.underlying62)) (rfl) (zk 8 rfl (zc rfl (HG (n:=f) I s J h5 rfl rfl rfl rfl) ?_)))))
 rintro v h ⟨a,q,r,rfl,s⟩
 exact zk 10 rfl (zh rfl (af rfl rfl aG) (rfl) (zk 2 rfl (zh rfl (af rfl rfl (wm o7)) (rfl) (zk 11 rfl (WP.ret ⟨aa,_,rfl,p,a,q,r,rfl,s⟩)))))
end
section
variable {P:Program} {h:H} {S:List au} {k:Nat}
theorem IP (s:Sat h S){t e:TypeId}{z:V}(hu:P.underlying t=some (.slice e))(I:zeroT P e=some z)(J:bq P e=some k)(hl:z.cells.length=k)(h1:1≤k):
  ∃h',buildSliceV P h t 0 []=some (.sl h.next 0 0 (.exact 0),h')∧Sat h' (pt h.next (.cells 0 [] false)::S):=by
 refine ⟨newRow h [],?_,s.new _⟩
 simp only [buildSliceV,hu,J,I]
 rw [show (Nat.beq z.cells.length k&&Nat.ble (0*k) 65536&&Nat.ble 1 k)=true by rw [hl,cN,aF.2 (by omega),aF.2 h1]; rfl,ag]
 simp only [repeatL,fillV,k_,ag]
theorem IQ {id:Nat}(s:Sat h (pt id (.cells 0 [] false)::S)): Sat h (aZ (.sl id 0 0 (.exact 0)) []::S) :=
 s.iU fun m r hm=>⟨by simp,.inr (.inl ⟨id,[],0,rfl,hm,rfl⟩)⟩
end
section
variable {told:cZ} {h:H} {S:List au} {X Y:au} {r k q p bR a g aO:Nat} {op v x u wh di:V} {l b dD data dI:List Nat} {μ:Lg} {δ:Dk}
theorem MB (hT:W told)(s:Sat h (X::S))(I:c8 X (c9 x l))(hl:l.length≤1073741824): Call ⟨Tryz.prog,told⟩ 152 [x] h fun v h'=>Sat h' (aZ v l::X::S):=by
 have hv:=s.aU (k:=0) rfl I
 refine Call.of_wp (hT.free _ rfl) Tryz.func152 rfl rfl (zK 8 rfl ?_)
 rcases hv.2 with ⟨rfl | ⟨ea,rfl⟩,rfl⟩ | ⟨id,off,cap,n,cs,st,rfl,_⟩
 ·refine zt rfl ((by exact af rfl rfl (by simp only [binV,eqV,aV]; rfl))) (rfl) ?_
  exact zk 6 rfl (WP.ret ⟨aa,_,rfl,s.sW⟩)
 ·skip
  refine zh rfl ((by exact af rfl rfl (by simp only [binV,eqV,aV]; rfl))) (rfl) ?_
  refine zk 5 rfl ?_
  obtain ⟨J,e1,s1⟩:=IP (P:=Tryz.prog) s aV W4 Qi rfl (by decide)
  refine az.any rfl rfl rfl (OpR.of (R:=fun v h'=>v=.sl h.next 0 0 (.exact 0)∧h'=J) (mD rfl e1) ⟨rfl,rfl⟩) ?_
  rintro v h' ⟨rfl,rfl⟩
  have s:=IQ s1
  refine zm rfl (az.any rfl rfl rfl (OpR.oU rfl s I rfl rfl rfl rfl (by simp <;> omega)) ?_)
  intro w h s
  exact zk 2 rfl (WP.ret ⟨aa,_,rfl,s⟩)
 ·skip
  refine zh rfl ((by exact af rfl rfl (by simp only [binV,eqV,aV]; rfl))) (rfl) ?_
  refine zk 5 rfl ?_
  obtain ⟨J,e1,s1⟩:=IP (P:=Tryz.prog) s aV W4 Qi rfl (by decide)
  refine az.any rfl rfl rfl (OpR.of (R:=fun v h'=>v=.sl h.next 0 0 (.exact 0)∧h'=J) (mD rfl e1) ⟨rfl,rfl⟩) ?_
  rintro v h' ⟨rfl,rfl⟩
  have s:=IQ s1
  refine zm rfl (az.any rfl rfl rfl (OpR.oU rfl s I rfl rfl rfl rfl (by simp <;> omega)) ?_)
  intro w h s
  exact zk 2 rfl (WP.ret ⟨aa,_,rfl,s⟩)
end
def slF (v:V)(i:Nat): V:=match v with
 | .sl id off len (.exact c)=>.sl id (cond (Nat.beq c i) off (off+i*1)) (len-i) (.exact (c-i))
 | .sl id off len (.rest _ alt)=>.sl id (off+i*1) (len-i) (.rest 1 (cond (Nat.beq i 0) alt (cond (Nat.blt i len) (off+i*1) off)))
 | v=>v
theorem UO {P:Program}{h:H}{S:List au}{v:V}{cs:List V}{i j:Nat}{t e:TypeId}(s:Sat h S)(hj:getA S j=some (.arr 1 v cs))(hi:i≤cs.length)(hu:P.underlying t=some (.slice e))(I:bq P e=some 1):
  sliceV P h t v (some i) none none=some (slF v i)∧lenV P h t (slF v i)=some (.int .i64 ((cs.length-i:Nat):Int)) ∧
  ∀(m:Nat) (x:V),cs[i+m]?=some x→∃id off,indexAddrV P t (slF v i) (.int .i64 (m:Int))=some (.ptr id off)∧∀t',b8 P t'=some false→loadV P h t' (.ptr id off)=some x:=by
 obtain ⟨pm,r,h1,h2,h3⟩:=s.at hj
 rcases h3.2 with ⟨rfl,rfl⟩ | ⟨id,n,cap,N,rest,rfl,hg,e1,e2,_,e4⟩
 ·have:i=0:=by simpa using hi
  subst this
  refine ⟨?_,?_,fun m x hm=>by simp at hm⟩
  ·simp only [sliceV,hu,I]; rfl
  ·simp only [slF,lenV,hu]; rfl
 ·have pR:=h1 _ _ hg
  rw [cx] at e1
  have J:∀(m:Nat) (x:V),cs[i+m]?=some x→∀t',b8 P t'=some false→loadV P h t' (.ptr id (0+i*1+m*1))=some x:=fun m x hm t' ht=>by
   have bC:=(List.getElem?_eq_some_iff.1 hm).1
   refine Io ht pR ?_
   rw [fG,show 0+i*1+m*1=i+m by omega,iF bC,hm]
  cases cap with
  | exact c =>
   obtain ⟨rfl,e5⟩:=e4
   refine ⟨?_,?_,fun m x hm => ?_⟩
   ·simp only [sliceV,hu,I,n4,ew,slF]
    rw [show (Nat.ble i n&&Nat.ble n c)=true by rw [aF.2 (by omega),aF.2 e5]; rfl,ag]
   ·simp only [slF,lenV,hu,e1]
   ·have bC:=(List.getElem?_eq_some_iff.1 hm).1
    refine ⟨id,0+i*1+m*1,?_,J m x hm⟩
    simp only [slF,indexAddrV,hu,I,bP]
    rw [show (decide ((0:Int)≤(m:Int))&&decide ((m:Int)<((n-i:Nat):Int)))=true by simp; omega,ag,cH (by omega),ay]
  | rest q alt =>
   obtain ⟨rfl,rfl,rfl,e5⟩:=e4
   refine ⟨?_,?_,fun m x hm => ?_⟩
   ·simp only [sliceV,hu,I,n4,ew,slF]
    rw [show (Nat.beq 1 1&&Nat.ble 1 1)=true from rfl,ag,show (Nat.ble i n&&(Nat.ble n n||Nat.ble n (jP h id 0 1)))=true by rw [aF.2 (by omega:i≤n),aF.2 (aD n)]; rfl,ag]
   ·simp only [slF,lenV,hu,e1]
   ·have bC:=(List.getElem?_eq_some_iff.1 hm).1
    refine ⟨id,0+i*1+m*1,?_,J m x hm⟩
    simp only [slF,indexAddrV,hu,I,bP]
    rw [show (decide ((0:Int)≤(m:Int))&&decide ((m:Int)<((n-i:Nat):Int)))=true by simp; omega,ag]
def yo (μ:Lg)(n:Nat): List Nat:=(μ.bD.filter fun s=>decide (n≤μ.base+s)).map fun s=>s-(n-μ.base)
def Lg.cut (μ:Lg)(n:Nat): Lg:={ base:=n,b:=μ.b.drop (n-μ.base),bD:=yo μ n,forced:=μ.forced-(n-μ.base),check:=μ.check }
def gw (x:LD)(n:Nat): Int×LD :=
 if (n≠x.1.base+x.1.b.length∧x.1.hasB n=false)∨x.1.base+x.1.forced<n∨(x.1.check≠0∧x.1.check<n) then (1,x) else
 if (x.2.lT ((n-x.1.base:Nat):Int) (gN n x.1.check)).1≠0 then ((x.2.lT ((n-x.1.base:Nat):Int) (gN n x.1.check)).1,(x.1,(x.2.lT ((n-x.1.base:Nat):Int) (gN n x.1.check)).2)) else
 (0,(x.1.cut n,(x.2.lT ((n-x.1.base:Nat):Int) (gN n x.1.check)).2))
theorem Se {μ:Lg}{n i:Nat}(h:Split μ n i): yo μ n=(μ.bD.drop i).map fun s=>s-(n-μ.base):=by
 have h1:μ.bD.filter (fun s=>decide (n≤μ.base+s))=μ.bD.drop i:=by
  conv=>lhs; rw [←yF i μ.bD]
  rw [Ci]
  have e1:(μ.bD.take i).filter (fun s=>decide (n≤μ.base+s))=[]:=by
   rw [List.filter_eq_nil_iff]
   intro s hs
   obtain ⟨j,I,rfl⟩:=List.mem_iff_getElem.1 hs
   have J:j<i:=by simp at I; omega
   have:=h.2.1 j _ J (by rw [aN (by simp at I; omega)])
   simp only [List.getElem_take] at this ⊢
   simp; omega
  have e2:(μ.bD.drop i).filter (fun s=>decide (n≤μ.base+s))=μ.bD.drop i:=by
   rw [List.filter_eq_self]
   intro s hs
   obtain ⟨j,I,rfl⟩:=List.mem_iff_getElem.1 hs
   have:=h.2.2 (i+j) _ (rN _ _) (by rw [aN (by simp at I; omega)])
   simp only [List.getElem_drop] at this ⊢
   simpa using this
  rw [e1,e2,dn]
 rw [yo,h1]
theorem De {μ:Lg}{n:Nat}(h:μ.hasB n=true): μ.base≤n:=by
 simp only [Lg.hasB,uR,eu] at h
 obtain ⟨s,_,rfl⟩:=h
 exact rN _ _
section
variable {told:cZ} {h:H} {S:List au} {X Y:au} {r k q p bR a g aO:Nat} {op v x u wh di:V} {l b dD data dI:List Nat} {μ:Lg} {δ:Dk}
theorem Wg (hT:W told){n:Int}{x:V}{b:List Nat}(s:Sat h (aL p δ::X::S))(hX:c8 X (c9 x b))(I:δ.Ok):
  Call ⟨Tryz.prog,told⟩ 151 [.ptr p 0,.int .i64 n,x] h fun v h'=>v=.int .i64 (δ.lT n b).1∧Sat h' (aL p (δ.lT n b).2::X::S):=by
 refine (RK hT s hX I.bj (by have:=I.len; omega) I.bT).mono fun v h' hr => ?_
 unfold Dk.lT
 rcases hr with ⟨J,rfl,s⟩ | ⟨J,h0,rfl,s⟩ | ⟨J,h1,h2,h3,h0,rfl,s⟩ | ⟨J,h1,h2,h3,h0,rfl,s⟩
 ·rw [aq J]; exact ⟨rfl,s⟩
 ·rw [ah (by rw [J]; decide),aq h0]; exact ⟨rfl,s⟩
 ·rw [ah (by rw [J]; decide),ah (by simp [h1,h2,h3]),aq h0]; exact ⟨rfl,s⟩
 ·rw [ah (by rw [J]; decide),ah (by simp [h1,h2,h3]),ah h0]; exact ⟨rfl,s⟩
end
section
variable {told:cZ} {h:H} {S:List au} {X Y:au} {r k q p bR a g aO:Nat} {op v x u wh di:V} {l b dD data dI:List Nat} {μ:Lg} {δ:Dk}
noncomputable def ctL : Code:=cV [1,1,1,1,1,1,0,1,0,0] ((Tryz.f98.body).getD .skip)
theorem O9 (hT:W told){i c:Nat}{sv:V}{mY:List Nat}{t1:V}(hi:i≤mY.length)(hb:∀s∈mY,s≤1099511627776)(hc:c≤1099511627776)(P8:∀s∈mY.drop i,c≤s)(zW:mY.length≤16777216): ∀(j m:Nat) (nv:V) (h:H) (E:List (Nat×V)) (Q:Ex→List (Nat×V)→H→Prop),i+m+j=mY.length →
  Sat h (.arr 1 nv (dH (((mY.drop i).take m).map fun s=>s-c))::.arr 1 sv (dH mY)::S) →
  Has E [(0,.ptr q 0),(1,t1),(5,.int .i64 (c:Int)),(8,nv),(81,slF sv i),(82,.int .i64 ((mY.length-i:Nat):Int)),(83,.int .i64 (m:Int))] →
  (∀QJ E' h',Has E' [(0,.ptr q 0),(1,t1),(5,.int .i64 (c:Int)),(8,QJ)]→Sat h' (.arr 1 QJ (dH ((mY.drop i).map fun s=>s-c))::.arr 1 sv (dH mY)::S)→Q (.exit 0) E' h') →
  WP ⟨Tryz.prog,told⟩ 121 (.loop ctL) E h Q:=by
 intro j
 induction j with
 | zero =>
  intro m nv h E Q hj s hE hx
  refine WP.loop (WP.has hE (zg rfl (zh rfl (af rfl rfl aK) (by simp <;> omega) ?_)))
  refine zk 3 rfl (WP.exit ?_)
  rw [fq (by simp; omega)] at s
  exact hx nv _ _ ⟨rfl,rfl,rfl,rfl,aa⟩ s
 | succ j ih =>
  intro m nv h E Q hj s hE hx
  have I:mY[i+m]?=some (mY[i+m]'(by omega)):=aN _
  have J:mY[i+m]'(by omega)∈mY:=pJ _
  have YC:=P8 (mY[i+m]'(by omega)) (by
   have:(mY.drop i)[m]?=some (mY[i+m]'(by omega)):=by rw [jH,I]
   exact a_ this)
  generalize (mY[i+m]'(by omega))=st at I J YC
  have FP:=hb st J
  obtain ⟨_,_,ud⟩:=UO (P:=Tryz.prog) (i:=i) s (j:=1) rfl (by simp only [eH]; exact hi) cM kA
  obtain ⟨id,off,e1,e2⟩:=ud m (.int .i64 (st:Int)) (by simp [dH,I])
  have UP:(mY.drop i).take (m+1)=(mY.drop i).take m++[st]:=by rw [yL,jH,I]; rfl
  have Kk:((st:Int)-(c:Int))=((st-c:Nat):Int):=by omega
  refine WP.loop (WP.has hE (zg rfl (zt rfl (af rfl rfl aK) (by simp <;> omega) ?_)))
  refine zk 5 rfl (WP.block (zg rfl (zo rfl (cn (r:=.ptr id off) rfl rfl e1) (zl rfl (e2 _ cA) (zk 6 rfl (zb rfl (by exact iB (aB (by omega) (by omega))) ?_))))))
  rw [Kk]
  obtain ⟨iv,h1,tj,s1⟩:=lE (P:=Tryz.prog) (k:=1) (x:=.int .i64 ((st-c:Nat):Int)) s cM As kA rfl (by decide) (by decide) rfl rfl
  dsimp only [V.cells] at s1
  refine az.any rfl rfl rfl (OpR.of (R:=fun v h'=>v=iv∧h'=h1) (mD rfl tj) ⟨rfl,rfl⟩) ?_
  rintro v' h' ⟨rfl,rfl⟩
  obtain ⟨i1,jk,iE,tY⟩:=tf
  obtain ⟨qW,h2,qF,s2⟩:=g_ (s1.ae [1,0]) cM jk As iE (by omega) rfl (by decide) (by simp only [eH,dF,kZ,rO,aH,bM]; omega)
  dsimp only [bringA,getA,bf] at s2
  refine az.any rfl rfl rfl (OpR.of (R:=fun v h'=>v=qW∧h'=h2) (mH rfl rfl qF) ⟨rfl,rfl⟩) ?_
  rintro v' h' ⟨rfl,rfl⟩
  refine za rfl (zv (zr rfl (zb rfl (by exact bg (aB (by omega) (by omega))) ?_)))
  refine zm rfl (zv ?_)
  refine ih (m+1) _ _ _ Q (by omega) ?_ ⟨rfl,rfl,rfl,rfl,rfl,rfl,rfl,aa⟩ hx
  have e:dH (((mY.drop i).take (m+1)).map fun s=>s-c)=dH (((mY.drop i).take m).map fun s=>s-c)++[.int .i64 ((st-c:Nat):Int)]:=by
   rw [UP,Cp]; simp [dH]
  rw [e]
  exact s2.del 1
noncomputable def Xx : Code:=cV [1,1] ((Tryz.f98.body).getD .skip)
theorem O_ (hT:W told){n:Nat}{E:List (Nat×V)}{Q:Ex→List (Nat×V)→H→Prop}(s:Sat h (bx q p μ::aL p δ::S))(I:μ.Ok)(tg:δ.Ok)(h1:μ.base≤n)(h2:n≤μ.base+μ.forced)(hE:Has E [(0,.ptr q 0),(1,.int .u64 (n:Int))])
 (Ap:∀E' h',(δ.lT ((n-μ.base:Nat):Int) (gN n μ.check)).1≠0→look E' 4=some (.int .i64 (δ.lT ((n-μ.base:Nat):Int) (gN n μ.check)).1)→Sat h' (bx q p μ::aL p (δ.lT ((n-μ.base:Nat):Int) (gN n μ.check)).2::S)→Q .ret E' h')
 (iz:∀E' h',(δ.lT ((n-μ.base:Nat):Int) (gN n μ.check)).1=0→look E' 4=some (.int .i64 0)→Sat h' (bx q p (μ.cut n)::aL p (δ.lT ((n-μ.base:Nat):Int) (gN n μ.check)).2::S)→Q .ret E' h'):
  WP ⟨Tryz.prog,told⟩ 121 Xx E h Q:=by
 have wg:=I.size
 have Sf:=I.forced
 have hlen:=I.len
 have YD:n<18446744073709551616:=by omega
 have Kk:((n:Int)-(μ.base:Int))=((n-μ.base:Nat):Int):=by omega
 obtain ⟨bv,sv,s⟩:=dr.1 s
 refine WP.has hE (zK 5 rfl (zf rfl (jL _ _) (zl rfl (s.ld (k:=0) rfl iP rfl) (zb rfl (by exact iB (ff (by omega) (by omega))) ?_))))
 refine zo rfl (b9 rfl (by exact ji cG bI (aB (by omega) (by omega)))) ?_
 refine zk 4 rfl ?_
 rw [Kk]
 have s0:=s
 refine WP.drawn [some (0,2),some (0,2),some (0,2),some (0,2),some (0,2),ai,ai,ai,ai,ai,ai,ai,ai,ai] rfl (by kernel_rfl) (by kernel_rfl) ?_
 refine zM rfl (zN rfl (zF rfl (oz _ _) (zL rfl (s.ld (k:=0) rfl jU rfl) (zM rfl (zM rfl (zM rfl (zM rfl (zN rfl (zF rfl (pW _ _) (zL rfl (s.ld (k:=0) rfl iP rfl) (aA.any rfl rfl rfl rfl (OpR.call rfl rfl rfl rfl (BN (q:=q) (a:=n) (b:=μ.check) hT s)) ?_)))))))))))
 intro mv h s
 have s:=s.ae [1,1,1,1,0]
 have s1:=s
 refine aA.any rfl rfl rfl rfl (OpR.call rfl rfl rfl rfl (Wg (n:=((n-μ.base:Nat):Int)) hT (s.ae [3,3]) (bz _ _) tg)) ?_
 rintro v h ⟨rfl,s⟩
 have s:=(s.del 1).ae [1,1,1,0]
 refine zA rfl ?_
 refine aA.nil ⟨⟨fun _ _=>.inr ⟨rfl,⟨_,bF rfl⟩,aS _ rfl⟩,fun _ _=>.inr ⟨rfl,⟨_,ni rfl⟩,aS _ rfl⟩,fun _ _=>.inr ⟨rfl,⟨_,jS rfl (oz _ _)⟩,aS _ rfl⟩,dB (.inr ⟨rfl,⟨_,aR rfl (s0.ld (k:=0) rfl jU rfl)⟩,aS _ rfl⟩) (.inr ⟨rfl,⟨_,aR rfl (s1.ld (k:=0) rfl jU rfl)⟩,aS _ rfl⟩),fun _ _=>.inr ⟨rfl,⟨_,bF rfl⟩,aS _ rfl⟩,aa,aa,aa,aa,aa,aa,aa,aa,aa,aa⟩,?_⟩
 refine zK 3 rfl ?_
 generalize hcf:δ.lT ((n-μ.base:Nat):Int) (gN n μ.check)=cf at s Ap iz
 by_cases he:cf.1=0
 ·skip
  refine zh rfl (af rfl rfl aG) (by simp; exact he) ?_
  have s:=dr.2 ⟨bv,sv,s⟩
  refine zk 7 rfl (zc rfl (C5 (n:=n) hT s I YD) ?_)
  rintro v h' ⟨rfl,i,wS,rfl⟩
  obtain ⟨bv,sv,s⟩:=dr.1 s
  have hi:=wS.1
  have J:((μ.bD.length:Int)-(i:Int))=((μ.bD.length-i:Nat):Int):=by omega
  have zW:=I.many
  refine zk 6 rfl (zf rfl (jj _ _) (zl rfl (s.ld (k:=0) rfl pS rfl) (zo rfl (aT rfl rfl rfl (s.eY (n:=μ.bD.length) (j:=2) rfl (by simp [eH]) (by decide) cM)) ?_)))
  refine zm rfl (zb rfl (by exact iB (aB (by omega) (by omega))) ?_)
  rw [J]
  obtain ⟨i1,jk,iE,tY⟩:=tf
  obtain ⟨nv,UQ,e1,s1⟩:=qy (P:=Tryz.prog) s cM jk As iE (by omega) rfl (by decide) (by decide) (n:=0) (c:=μ.bD.length-i) (by omega) (by omega)
  dsimp only [repeatL] at s1
  refine az.any rfl rfl rfl (OpR.of (R:=fun v h'=>v=nv∧h'=UQ) (ry rfl rfl e1) ⟨rfl,rfl⟩) ?_
  rintro v h' ⟨rfl,rfl⟩
  have s:=s1.ae [0,2,0,0]
  have UR:=UO (P:=Tryz.prog) (i:=i) s (j:=1) rfl (by simp only [eH]; exact hi) cM kA
  have E6:=UR.2.1
  rw [eH] at E6
  refine zk 7 rfl (zf rfl (jj _ _) (zl rfl (s.ld (k:=2) rfl pS rfl) (zm rfl (zo rfl (c_ (p:=some (.int .i64 (i:Int))) (q:=none) (m:=none) (p':=some i) (q':=none) (m':=none) rfl rfl rfl rfl (by rw [dU (by omega)]; rfl) rfl rfl UR.1) ?_))))
  refine zo rfl (aT rfl rfl rfl E6) (zk 2 rfl (WP.block ?_))
  refine O9 hT (q:=q) (t1:=.int .u64 (n:Int)) (i:=i) (c:=n-μ.base) (mY:=μ.bD) hi (fun x hx => ?_) (by omega) (fun x hx => ?_) zW (μ.bD.length-i) 0 _ _ _ _ (by omega) s ⟨rfl,rfl,rfl,rfl,rfl,rfl,rfl,aa⟩ (fun QJ E' h' jl s' => ?_)
  ·have:=I.low x hx; omega
  ·obtain ⟨j,hj,rfl⟩:=List.mem_iff_getElem.1 hx
   have:=wS.2.2 (i+j) _ (rN _ _) (by rw [aN (by simp at hj; omega)])
   simp only [List.getElem_drop] at this ⊢
   omega
  ·have s:=s'
   rw [←Se wS] at s
   have US:=s.lD (j:=0) rfl
   have Xy:=(s.buf (k:=3) rfl).view
   have ku:=cD Xy (a:=n-μ.base) (by omega)
   have Qo:=gY Xy
   have FP:=gY ku.2.1
   have UT:((μ.forced:Int)-((n-μ.base:Nat):Int))=((μ.forced-(n-μ.base):Nat):Int):=by omega
   refine WP.has jl (zw ?_)
   have s0:=s
   refine WP.drawn [some (0,2),some (0,3),some (0,4),some (0,5),some (0,2),ai,ai,ai,ai,ai,ai,ai,some (0,4),some (0,2),some (0,2),some (0,2),some (0,2),some (0,5),some (0,5),ai,ai,ai,ai,ai,ai,ai,ai,ai,ai,ai,ai] rfl (by kernel_rfl) (by kernel_rfl) ?_
   refine zM rfl (zM rfl (zM rfl (zM rfl (zM rfl (zM rfl (zN rfl (zF rfl (jM _ _) (zL rfl (s.ld (k:=2) rfl cS rfl) (zM rfl (zO rfl (c_ (p:=some (.int .i64 ((n-μ.base:Nat):Int))) (q:=none) (m:=none) (p':=some (n-μ.base)) (q':=none) (m':=none) rfl rfl rfl rfl (by rw [dU (by omega)]; rfl) rfl rfl ku.1) ?_))))))))))
   refine aA.any rfl rfl rfl rfl (OpR.call rfl rfl rfl rfl (MB hT (s.ae [3]) (zR (bz _ _) (by omega)) (by simp; omega))) ?_
   intro w h s
   have hw:=(s.buf (k:=0) rfl).view.cells
   have s1:=s
   refine zM rfl (zM rfl (zN rfl (zF rfl (r_ _ _) (zL rfl (s.ld (k:=4) rfl cA rfl) (zM rfl (zO rfl (af rfl rfl (by exact iB (aB (by omega) (by omega)))) ?_))))))
   refine zN rfl (zF rfl (jL _ _) (aA.j6 rfl rfl rfl (OpR.vm rfl rfl rfl (s.gO (k:=4) rfl AI rfl (by decide) rfl rfl)) ?_))
   rintro v h ⟨rfl,s⟩
   have s2:=s
   refine zN rfl (zF rfl (jM _ _) (aA.j6 rfl rfl rfl (OpR.vm rfl rfl rfl (s.gO (k:=4) rfl jT rfl (by decide) hw.1 hw.2)) ?_))
   rintro v h ⟨rfl,s⟩
   have s3:=s
   refine zN rfl (zF rfl (jj _ _) (aA.j6 rfl rfl rfl (OpR.vm rfl rfl rfl (s.gO (k:=4) rfl T5 rfl (by decide) US.1 US.2.1)) ?_))
   rintro v h ⟨rfl,s⟩
   have s4:=s
   refine zN rfl (zF rfl (r_ _ _) (aA.j6 rfl rfl rfl (OpR.vm rfl rfl rfl (s.gO (k:=4) rfl kA rfl (by decide) rfl rfl)) ?_))
   rintro v h ⟨rfl,s⟩
   refine aA.nil ⟨⟨fun _ _=>.inr ⟨rfl,⟨_,bF rfl⟩,aS _ rfl⟩,fun _ _=>.inr ⟨rfl,⟨_,bF rfl⟩,aS _ rfl⟩,fun _ _=>.inr ⟨rfl,⟨_,bF rfl⟩,aS _ rfl⟩,fun _ _=>.inr ⟨rfl,⟨_,bF rfl⟩,aS _ rfl⟩,fun _ _=>.inr ⟨rfl,⟨_,bF rfl⟩,aS _ rfl⟩,aa,aa,aa,aa,aa,aa,aa,fun _ _=>.inr ⟨rfl,⟨_,bF rfl⟩,US.2.2⟩,fun _ _=>.inr ⟨rfl,⟨_,bF rfl⟩,aS _ rfl⟩,fun _ _=>.inr ⟨rfl,⟨_,ni rfl⟩,aS _ rfl⟩,fun _ _=>.inr ⟨rfl,⟨_,jS rfl (r_ _ _)⟩,aS _ rfl⟩,dB (.inr ⟨rfl,⟨_,aR rfl (s0.ld (k:=2) rfl cA rfl)⟩,aS _ rfl⟩) (.inr ⟨rfl,⟨_,aR rfl (s1.ld (k:=4) rfl cA rfl)⟩,aS _ rfl⟩),fun _ _=>.inr ⟨rfl,⟨_,bF rfl⟩,aS _ rfl⟩,fun _ _=>.inr ⟨rfl,⟨_,af rfl rfl (by exact iB (aB (by omega) (by omega)))⟩,aS _ rfl⟩,aa,aa,aa,aa,aa,aa,aa,aa,aa,aa,aa,aa,aa⟩,?_⟩
   refine zK 4 rfl (WP.ret ?_)
   rw [UT] at s
   refine iz _ _ he rfl (dr.2 ⟨w,QJ,?_⟩)
   exact ((s.ae [4,0,1,2]).del 5).del 4
 ·skip
  refine zt rfl (af rfl rfl aG) (by simp; exact he) ?_
  exact zk 7 rfl (WP.ret (Ap _ _ he rfl (dr.2 ⟨bv,sv,s⟩)))
end
section
variable {told:cZ} {h:H} {S:List au} {X Y:au} {r k q p bR a g aO:Nat} {op v x u wh di:V} {l b dD data dI:List Nat} {μ:Lg} {δ:Dk}
theorem UU (hT:W told){n:Nat}(s:Sat h (bx q p μ::aL p δ::S))(J:μ.Ok)(tg:δ.Ok)(hn:n<18446744073709551616):
  Call ⟨Tryz.prog,told⟩ 98 [.ptr q 0,.int .u64 (n:Int)] h fun v h'=>v=.int .i64 (gw (μ,δ) n).1∧Sat h' (bx q p (gw (μ,δ) n).2.1::aL p (gw (μ,δ) n).2.2::S):=by
 have s0:=s
 have wg:=J.size
 have Sf:=J.forced
 obtain ⟨bv,sv,s⟩:=dr.1 s
 refine Call.of_wp (hT.free _ rfl) Tryz.func98 rfl rfl (zK 9 rfl ?_)
 have rest:¬((n≠μ.base+μ.b.length∧μ.hasB n=false)∨μ.base+μ.forced<n∨(μ.check≠0∧μ.check<n))→μ.base≤n→∀E:List (Nat×V),Has E [(0,.ptr q 0),(1,.int .u64 (n:Int))] →
   WP ⟨Tryz.prog,told⟩ 121 Xx E h fun ex E' h'=>(match ex with | .exit _=>False | _=>True)∧∃v,jA Tryz.prog E' h' [.tmp 4]=some v∧(v=.int .i64 (gw (μ,δ) n).1∧Sat h' (bx q p (gw (μ,δ) n).2.1::aL p (gw (μ,δ) n).2.2::S)):=by
  intro I hle E hE
  refine O_ hT s0 J tg hle (by omega) hE (fun E' h' h1 h2 s' => ?_) (fun E' h' h1 h2 s' => ?_)
  ·rw [gw,ah I,aq h1]
   exact ⟨aa,_,qQ h2,rfl,s'⟩
  ·rw [gw,ah I,ah (by simpa using h1)]
   exact ⟨aa,_,qQ h2,rfl,s'⟩
 refine zc rfl (qa hT s0 J.size) ?_
 rintro v h' ⟨rfl,rfl⟩
 by_cases he:n=μ.base+μ.b.length
 ·skip
  refine zh rfl (af rfl rfl aG) (by simp; omega) ?_
  refine zk 9 rfl (zc rfl (rC hT s0 J.size J.forced) ?_)
  rintro v h' ⟨rfl,rfl⟩
  by_cases hf:μ.base+μ.forced<n
  ·skip
   refine zt rfl (af rfl rfl er) (by simp; omega) ?_
   refine zk 22 rfl (WP.ret ⟨aa,_,rfl,?_⟩)
   rw [gw,aq (.inr (.inl hf))]
   exact ⟨rfl,s0⟩
  ·skip
   refine zh rfl (af rfl rfl er) (by simp; omega) ?_
   refine zk 4 rfl (zf rfl (pW _ _) (zl rfl (s.ld (k:=0) rfl iP rfl) ?_))
   by_cases hc:μ.check=0
   ·skip
    refine zh rfl (af rfl rfl aG) (by simp; omega) ?_
    refine zk 11 rfl ?_
    have I:¬((n≠μ.base+μ.b.length∧μ.hasB n=false)∨μ.base+μ.forced<n∨(μ.check≠0∧μ.check<n)):=by omega
    exact WP.skip (rest I (by omega) _ ⟨rfl,rfl,aa⟩)
   ·skip
    refine zt rfl (af rfl rfl aG) (by simp; omega) ?_
    refine zk 4 rfl (zf rfl (pW _ _) (zl rfl (s.ld (k:=0) rfl iP rfl) ?_))
    by_cases UW:μ.check<n
    ·skip
     refine zt rfl (af rfl rfl er) (by simp; omega) ?_
     refine zk 8 rfl (WP.ret ⟨aa,_,rfl,?_⟩)
     rw [gw,aq (.inr (.inr ⟨hc,UW⟩))]
     exact ⟨rfl,s0⟩
    ·skip
     refine zh rfl (af rfl rfl er) (by simp; omega) ?_
     refine zk 4 rfl ?_
     have I:¬((n≠μ.base+μ.b.length∧μ.hasB n=false)∨μ.base+μ.forced<n∨(μ.check≠0∧μ.check<n)):=by omega
     exact WP.skip (rest I (by omega) _ ⟨rfl,rfl,aa⟩)
 ·skip
  refine zt rfl (af rfl rfl aG) (by simp; omega) ?_
  refine zk 3 rfl (zc rfl (C6 (n:=n) hT s0 J hn) ?_)
  rintro v h' ⟨rfl,rfl⟩
  cases hh:μ.hasB n with
  | false =>
   refine zo rfl (cX rfl rfl) (zk 28 rfl (WP.ret ⟨aa,_,rfl,?_⟩))
   rw [gw,aq (.inl ⟨he,hh⟩)]
   exact ⟨rfl,s0⟩
  | true =>
   refine zo rfl (cX rfl rfl) (zk 4 rfl (zc rfl (rC hT s0 J.size J.forced) ?_))
   rintro v h' ⟨rfl,rfl⟩
   by_cases hf:μ.base+μ.forced<n
   ·skip
    refine zt rfl (af rfl rfl er) (by simp; omega) ?_
    refine zk 22 rfl (WP.ret ⟨aa,_,rfl,?_⟩)
    rw [gw,aq (.inr (.inl hf))]
    exact ⟨rfl,s0⟩
   ·skip
    refine zh rfl (af rfl rfl er) (by simp; omega) ?_
    refine zk 4 rfl (zf rfl (pW _ _) (zl rfl (s.ld (k:=0) rfl iP rfl) ?_))
    by_cases hc:μ.check=0
    ·skip
     refine zh rfl (af rfl rfl aG) (by simp; omega) ?_
     refine zk 11 rfl ?_
     have I:¬((n≠μ.base+μ.b.length∧μ.hasB n=false)∨μ.base+μ.forced<n∨(μ.check≠0∧μ.check<n)):=by simp [hh]; omega
     exact WP.skip (rest I (De hh) _ ⟨rfl,rfl,aa⟩)
    ·skip
     refine zt rfl (af rfl rfl aG) (by simp; omega) ?_
     refine zk 4 rfl (zf rfl (pW _ _) (zl rfl (s.ld (k:=0) rfl iP rfl) ?_))
     by_cases UW:μ.check<n
     ·skip
      refine zt rfl (af rfl rfl er) (by simp; omega) ?_
      refine zk 8 rfl (WP.ret ⟨aa,_,rfl,?_⟩)
      rw [gw,aq (.inr (.inr ⟨hc,UW⟩))]
      exact ⟨rfl,s0⟩
     ·skip
      refine zh rfl (af rfl rfl er) (by simp; omega) ?_
      refine zk 4 rfl ?_
      have I:¬((n≠μ.base+μ.b.length∧μ.hasB n=false)∨μ.base+μ.forced<n∨(μ.check≠0∧μ.check<n)):=by simp [hh]; omega
      exact WP.skip (rest I (De hh) _ ⟨rfl,rfl,aa⟩)
end
end Go.Proofs.YtefepnnfphdkpaaGreat.Am
