/- SpacePlays: a part of its proof; conditions: its statement's. -/
import Derived.Test.YtefepnnfphdkpaaGreatE18
namespace Go.Proofs.YtefepnnfphdkpaaGreat.Am
open Go
section
variable {told:cZ} {h:H} {S:List au} {X:au} {p:Nat} {δ:Dk}
def Dk.wr (δ:Dk)(n:Int)(b:List Nat): Dk:={ δ.c6 with waiting:=δ.waiting++[(n.toNat,b)],now:=dO n b δ.now }
theorem RI : ∃i,Tryz.prog.info? 151=some i∧i.size=2∧i.bytes=32 :=
 ⟨_,(show Tryz.prog.info? 151=some ((Tryz.prog.info? 151).getD default) by kernel_rfl),by kernel_rfl,by kernel_rfl⟩
theorem Sat.Uo {cs:List V}{m:List Wr}{u:V}{x:Wr}(s:Sat h (.c5 u x.2::BL cs m::S))(hu:u≠.bu): Sat h (BL (cs++[.int .i64 (x.1:Int),u]) (m++[x])::S) :=
 s.two (aX.c5 _ _) (aX.wr _ _) fun _ _ I J=>RF J hu I
theorem LX (hT:W told){n:Int}{x:V}{b:List Nat}(s:Sat h (aL p δ::X::S))(hX:c8 X (c9 x b))(hb:b.length<1073741824)(hf:δ.bj<4294967296)(hw:δ.waiting.length≤268435456):
  Call ⟨Tryz.prog,told⟩ 138 [.ptr p 0,.int .i64 n,x] h fun v h' =>
  (δ.dead=true∧v=.int .i64 9∧Sat h' (aL p δ::X::S)) ∨
  (δ.dead=false∧¬(0≤n∧n<δ.aM.length∧b.length=512)∧v=.int .i64 1∧Sat h' (aL p δ::X::S)) ∨
  (δ.dead=false∧0≤n∧n<δ.aM.length∧b.length=512∧δ.bj=0∧v=.int .i64 9∧Sat h' (aL p { δ.die with C2:=some (n.toNat,b) }::X::S)) ∨
  (δ.dead=false∧0≤n∧n<δ.aM.length∧b.length=512∧δ.bj≠0∧v=.int .i64 0∧Sat h' (aL p (δ.wr n b)::X::S)):=by
 have J:=s
 obtain ⟨pg,wt,nw,lg,mk,tn,tl,ops,s⟩:=bW.1 s
 refine Call.of_wp (hT.free _ rfl) Tryz.func138 rfl rfl (zK 5 rfl (WP.block (zK 4 rfl (zf rfl (jK _ _) ?_))))
 refine zd rfl (aR rfl (s.ld (k:=0) rfl kB rfl)) ?_ ?_
 ·intro hd
  exact zk 7 rfl (WP.ret ⟨aa,_,rfl,.inl ⟨hd,rfl,J⟩⟩)
 ·intro hd
  refine zk 7 rfl (zc rfl (LV hT J) ?_)
  rintro v h' ⟨rfl,(⟨qD,nM,rfl⟩ | ⟨hn,rfl⟩)⟩
  ·skip
   refine zo rfl (cX rfl rfl) (zk 2 rfl (zo rfl (aT rfl rfl rfl (bO aV (s.aU (k:=8) rfl hX))) ?_))
   refine zd rfl (af rfl rfl aG) ?_ ?_
   ·intro I
    have I:b.length≠512:=by simp at I; omega
    exact zk 8 rfl (WP.ret ⟨aa,_,rfl,.inr (.inl ⟨hd,fun q=>I q.2.2,rfl,J⟩)⟩)
   ·intro I
    have I:b.length=512:=by simp at I; omega
    refine zk 2 rfl (zv (zj rfl (WP.skip (zg rfl (zk 2 rfl (zc rfl (jD hT (J.ae [1]) hX hb) ?_))))))
    intro u h s
    obtain ⟨sZ,_,cap,_,rfl,_⟩:=s.fB (by omega)
    have s:=s.gu
    have Xa:((n.toNat:Nat):Int)=n:=by omega
    refine zo rfl (dA rfl (by rw [VM]; rfl)) ?_
    refine az.cz s rfl rfl rfl (cy JL) (fun p7 h s => ?_)
    refine zS rfl (s.eZ (j:=0) rfl JK rfl rfl) (fun h s => ?_)
    refine zk 5 rfl (zc rfl (mV hT (s.ae [3]) hf) ?_)
    rintro v h (⟨h0,rfl,s⟩ | ⟨h0,rfl,s⟩)
    ·skip
     obtain ⟨pg,wt,nw,lg,mk,tn,tl,ops,s⟩:=bW.1 s
     refine zo rfl (cX rfl rfl) (zk 6 rfl (zf rfl (Ob _ _) ?_))
     refine zS rfl (by exact s.gO (k:=0) rfl VJ rfl (by decide) rfl rfl) (fun h s => ?_)
     dsimp only [BK,V.cells,List.length_cons,List.length_nil,Nat.reduceAdd,bf,bringA,List.take,List.drop,List.cons_append,List.nil_append,setA,List.set] at s
     refine zk 5 rfl (WP.ret ⟨aa,_,rfl,?_⟩)
     have s1:=s.ae [8,8,8]
     have s2:Sat h (BM _ (some (n.toNat,b))::_):=kz.2 ⟨_,kz.2 ⟨_,cq.2 (sS.2 ⟨rfl,by rw [Xa]; exact s1⟩)⟩⟩
     have s3:=(s2.del 8).ae [2,2,2,2,2,2,0,1,0]
     exact .inr (.inr (.inl ⟨hd,qD,nM,I,h0,rfl,bW.2 ⟨_,_,_,_,_,_,_,_,s3⟩⟩))
    ·skip
     obtain ⟨pg,wt,nw,lg,mk,tn,tl,ops,s⟩:=bW.1 s
     dsimp only [Dk.c6] at s
     obtain ⟨cs,sw⟩:=tX.1 (s.ae [2])
     have s:=sw.ae [2,8,0,0]
     dsimp only [BK,V.cells,List.length_cons,List.length_nil,Nat.reduceAdd,bf,bringA,List.take,List.drop,List.cons_append,List.nil_append,setA,getA] at s
     have J:=s
     have Qv:=(s.lD (j:=2) rfl).2.2
     refine zo rfl (cX rfl rfl) (zk 4 rfl (WP.drawn [some (0,3),some (0,2),some (0,2),some (0,2),some (0,2),ai,ai,ai,ai,ai,ai] rfl (by kernel_rfl) (by kernel_rfl) ?_))
     refine zM rfl (zM rfl (zN rfl (zF rfl (zE _ _) (zL rfl (s.ld (k:=0) rfl JJ rfl) (zL rfl (s.bZ (k:=1) rfl VL JK) ?_)))))
     obtain ⟨i1,jk,iE,tY⟩:=RI
     obtain ⟨sv,h1,e1,s1⟩:=lE (P:=Tryz.prog) (x:=.agg [.int .i64 n,.sl sZ 0 b.length cap]) s Tryz.underlying146 JL JK rfl (by decide) (by decide) rfl rfl
     dsimp only [V.cells] at s1
     refine aA.any rfl rfl rfl rfl (OpR.of (R:=fun v h'=>v=sv∧h'=h1) (mD rfl e1) ⟨rfl,rfl⟩) ?_
     rintro v h' ⟨rfl,rfl⟩
     have kQ:cs.length=δ.waiting.length*2:=by
      obtain ⟨a,b,q1,q2,q3⟩:=s.at (k:=3) rfl
      exact RG q3
     obtain ⟨Z1,h2,e2,s2⟩:=g_ (s1.ae [3,0]) Tryz.underlying146 jk JL iE (by omega) rfl (by decide) (by simp only [V.cells,aH,bM]; omega)
     dsimp only [bf,bringA] at s2
     refine aA.any rfl rfl rfl rfl (OpR.of (R:=fun v h'=>v=Z1∧h'=h2) (mH rfl rfl e2) ⟨rfl,rfl⟩) ?_
     rintro v h' ⟨rfl,rfl⟩
     have hv:=s2.lD (j:=0) rfl
     refine zN rfl (zF rfl (zE _ _) (aA.j6 rfl rfl rfl (OpR.vm rfl rfl rfl (s2.gO (k:=2) rfl Qk rfl (by decide) hv.1 hv.2.1)) ?_))
     rintro v h ⟨rfl,s⟩
     dsimp only [Nat.reduceAdd,List.set,setA] at s
     refine aA.nil ⟨⟨fun _ _=>.inr ⟨rfl,⟨_,bF rfl⟩,aS _ rfl⟩,fun _ _=>.inr ⟨rfl,⟨_,bF rfl⟩,aS _ rfl⟩,fun _ _=>.inr ⟨rfl,⟨_,ni rfl⟩,aS _ rfl⟩,fun _ _=>.inr ⟨rfl,⟨_,jS rfl (zE _ _)⟩,aS _ rfl⟩,dB (.inr ⟨rfl,⟨_,aR rfl (J.ld (k:=0) rfl JJ rfl)⟩,Qv⟩) (.inr ⟨rfl,⟨_,aR rfl (s1.ld (k:=1) rfl JJ rfl)⟩,Qv⟩),aa,aa,aa,aa,aa,aa,aa⟩,?_⟩
     refine zw (WP.drawn [ai,ai,ai,ai,ai,ai,ai,ai] rfl (by kernel_rfl) (by kernel_rfl) ?_)
     refine zM rfl (zN rfl (zF rfl (zG _ _) (zL rfl (s.ld (k:=2) rfl mI rfl) (zM rfl (zF rfl (Ry _ _) (zL rfl (s.ld (k:=3) rfl cS rfl) (aA.j6 rfl rfl rfl (OpR.mapUpdate rfl rfl rfl rfl (nQ (f:=fun v b=>au.c5 v b) (x:=b) (fun _ _=>aX.c5 _ _) (((s.ae [11]).dup (aX.c5 _ _)).ae [0,7]) nK bI)) ?_)))))))
     intro v h s
     dsimp only [bf,bringA] at s
     refine aA.nil ⟨⟨aa,aa,aa,aa,aa,aa,aa,aa,aa⟩,?_⟩
     refine zK 4 rfl (WP.ret ⟨aa,_,rfl,?_⟩)
     have s1:=(s.ae [1,5]).Uo (x:=(n.toNat,b)) (by simp)
     rw [Xa] at s1
     have s2:=((tX.2 ⟨_,s1.ae [2,0]⟩).del 4).del 2
     exact .inr (.inr (.inr ⟨hd,qD,nM,I,h0,rfl,bW.2 ⟨_,_,_,_,_,_,_,_,s2.ae [2,2,0,0,0,0,0,0,0]⟩⟩))
  ·skip
   exact zo rfl (cX rfl rfl) (zk 12 rfl (WP.ret ⟨aa,_,rfl,.inr (.inl ⟨hd,fun q=>hn ⟨q.1,q.2.1⟩,rfl,J⟩)⟩))
theorem RJ (J:W told)(s:Sat h (aL p δ::S))(hl:δ.log.length<1073741824): Call ⟨Tryz.prog,told⟩ 132 [.ptr p 0] h fun v h' =>
  (δ.dead=true∧v=.aY [.bu,.int .i64 9]∧Sat h' (aL p δ::S))∨(δ.dead=false∧∃b,v=.aY [b,.int .i64 0]∧Sat h' (aZ b δ.log::aL p δ::S)):=by
 have s0:=s
 obtain ⟨pg,wt,nw,lg,mk,tn,tl,ops,s⟩:=bW.1 s
 refine Call.of_wp (J.free _ rfl) Tryz.func132 rfl rfl (zK 10 rfl (zf rfl (jK _ _) ?_))
 refine zd rfl (aR rfl (s.ld (k:=0) rfl kB rfl)) ?_ ?_
 ·intro I
  exact zk 7 rfl (WP.ret ⟨aa,_,rfl,.inl ⟨I,rfl,s0⟩⟩)
 ·intro I
  refine zk 7 rfl (zf rfl (pV _ _) (zl rfl (s.ld (k:=0) rfl cS rfl) (zc rfl (jD J (s.ae [4]) (bz _ _) hl) ?_)))
  intro v h s
  exact zk 3 rfl (WP.ret ⟨aa,_,rfl,.inr ⟨I,v,rfl,(bW.2 ⟨pg,wt,nw,lg,mk,tn,tl,ops,s.ae [2,2,2,2,1,1,1,1,0]⟩).ae [1]⟩⟩)
theorem JY (J:W told)(s:Sat h (aL p δ::S))(hl:δ.mark.length≤64): Call ⟨Tryz.prog,told⟩ 131 [.ptr p 0] h fun v h' =>
  (δ.dead=true∧v=.aY [.bu,.int .i64 9]∧Sat h' (aL p δ::S))∨(δ.dead=false∧∃b,v=.aY [b,.int .i64 0]∧Sat h' (aZ b δ.mark::aL p δ::S)):=by
 have s0:=s
 obtain ⟨pg,wt,nw,lg,mk,tn,tl,ops,s⟩:=bW.1 s
 refine Call.of_wp (J.free _ rfl) Tryz.func131 rfl rfl (zK 10 rfl (zf rfl (jK _ _) ?_))
 refine zd rfl (aR rfl (s.ld (k:=0) rfl kB rfl)) ?_ ?_
 ·intro I
  exact zk 7 rfl (WP.ret ⟨aa,_,rfl,.inl ⟨I,rfl,s0⟩⟩)
 ·intro I
  refine zk 7 rfl (zf rfl (CS _ _) (zl rfl (s.ld (k:=0) rfl cS rfl) (zc rfl (jD J (s.ae [5]) (fe _ _) (by omega)) ?_)))
  intro v h s
  exact zk 3 rfl (WP.ret ⟨aa,_,rfl,.inr ⟨I,v,rfl,(bW.2 ⟨pg,wt,nw,lg,mk,tn,tl,ops,s.ae [2,2,2,2,2,1,1,1,0]⟩).ae [1]⟩⟩)
theorem Oo (hT:W told){x:V}{b:List Nat}(s:Sat h (aL p δ::X::S))(hX:c8 X (c9 x b))(hf:δ.bj<4294967296):
  Call ⟨Tryz.prog,told⟩ 148 [.ptr p 0,x] h fun v h' =>
  (δ.dead=true∧v=.int .i64 9∧Sat h' (aL p δ::X::S))∨(δ.dead=false∧64<b.length∧v=.int .i64 1∧Sat h' (aL p δ::X::S)) ∨
  (δ.dead=false∧b.length≤64∧δ.bj=0∧v=.int .i64 9∧Sat h' (aL p δ.die::X::S)) ∨
  (δ.dead=false∧b.length≤64∧δ.bj≠0∧v=.int .i64 0∧Sat h' (aL p { δ.c6 with mark:=b }::X::S)):=by
 have s0:=s
 obtain ⟨pg,wt,nw,lg,mk,tn,tl,ops,s⟩:=bW.1 s
 refine Call.of_wp (hT.free _ rfl) Tryz.func148 rfl rfl (zK 5 rfl (WP.block (zK 4 rfl (zf rfl (jK _ _) ?_))))
 refine zd rfl (aR rfl (s.ld (k:=0) rfl kB rfl)) ?_ ?_
 ·intro J
  exact zk 7 rfl (WP.ret ⟨aa,_,rfl,.inl ⟨J,rfl,s0⟩⟩)
 ·intro J
  refine zk 6 rfl (zo rfl (aT rfl rfl rfl (bO aV (s.aU (k:=8) rfl hX))) ?_)
  refine zd rfl (af rfl rfl er) ?_ ?_
  ·intro I
   have I:64<b.length:=by simp at I; omega
   exact zk 7 rfl (WP.ret ⟨aa,_,rfl,.inr (.inl ⟨J,I,rfl,s0⟩)⟩)
  ·intro I
   have I:b.length≤64:=by simp at I; omega
   refine zk 6 rfl (zc rfl (mV hT s0 hf) ?_)
   rintro v h (⟨h0,rfl,s⟩ | ⟨h0,rfl,s⟩)
   ·skip
    exact zo rfl (cX rfl rfl) (zk 7 rfl (WP.ret ⟨aa,_,rfl,.inr (.inr (.inl ⟨J,I,h0,rfl,s⟩))⟩))
   ·skip
    refine zo rfl (cX rfl rfl) (za rfl (zv (zj rfl (WP.skip (zg rfl (zk 2 rfl (zc rfl (jD hT (s.ae [1]) hX (by omega)) ?_)))))))
    intro v h s
    have s:=(s.gu).ae [2,0,0]
    obtain ⟨pg,wt,nw,lg,mk,tn,tl,ops,s⟩:=bW.1 s
    dsimp only [Dk.c6] at s
    have hv:=(s.aU (k:=8) rfl (fe _ _)).cells
    refine zn rfl (zf rfl (CS _ _) (zS rfl (s.gO (k:=0) rfl jT rfl (by decide) hv.1 hv.2) ?_))
    intro h s
    exact zk 5 rfl (WP.ret ⟨aa,_,rfl,.inr (.inr (.inr ⟨J,I,h0,rfl,bW.2 ⟨pg,wt,nw,lg,v,tn,tl,ops,(s.del 5).ae [0,0,0,0,0,2,0,0,0]⟩⟩))⟩)
theorem RK (hT:W told){n:Int}{x:V}{b:List Nat}(s:Sat h (aL p δ::X::S))(hX:c8 X (c9 x b))(hf:δ.bj<4294967296)(hl:δ.log.length<1073741824)(hc:δ.bT≤δ.log.length):
  Call ⟨Tryz.prog,told⟩ 151 [.ptr p 0,.int .i64 n,x] h fun v h' =>
  (δ.dead=true∧v=.int .i64 9∧Sat h' (aL p δ::X::S))∨(δ.dead=false∧¬(0≤n∧n≤δ.bT∧b.length≤64)∧v=.int .i64 1∧Sat h' (aL p δ::X::S)) ∨
  (δ.dead=false∧0≤n∧n≤δ.bT∧b.length≤64∧δ.bj=0∧v=.int .i64 9∧Sat h' (aL p δ.die::X::S)) ∨
  (δ.dead=false∧0≤n∧n≤δ.bT∧b.length≤64∧δ.bj≠0∧v=.int .i64 0∧Sat h' (aL p { δ.c6 with log:=δ.log.drop n.toNat,bT:=δ.bT-n.toNat,mark:=b }::X::S)):=by
 have s0:=s
 obtain ⟨pg,wt,nw,lg,mk,tn,tl,ops,s⟩:=bW.1 s
 refine Call.of_wp (hT.free _ rfl) Tryz.func151 rfl rfl (zK 5 rfl (WP.block (zK 4 rfl (zf rfl (jK _ _) ?_))))
 refine zd rfl (aR rfl (s.ld (k:=0) rfl kB rfl)) ?_ ?_
 ·intro hd
  exact zk 7 rfl (WP.ret ⟨aa,_,rfl,.inl ⟨hd,rfl,s0⟩⟩)
 ·intro hd
  refine zk 6 rfl ?_
  refine zd rfl (af rfl rfl aK) ?_ ?_
  ·intro hq
   have hq:n<0:=by simpa using hq
   exact zk 20 rfl (WP.ret ⟨aa,_,rfl,.inr (.inl ⟨hd,fun q=>by omega,rfl,s0⟩)⟩)
  ·intro hq
   have hq:0≤n:=by simpa using hq
   refine zk 4 rfl (zf rfl (vq _ _) (zl rfl (s.ld (k:=0) rfl cA rfl) ?_))
   refine zd rfl (af rfl rfl er) ?_ ?_
   ·intro I
    have I:(δ.bT:Int)<n:=by simpa using I
    exact zk 13 rfl (WP.ret ⟨aa,_,rfl,.inr (.inl ⟨hd,fun q=>by omega,rfl,s0⟩)⟩)
   ·intro I
    have I:n≤δ.bT:=by simpa using I
    refine zk 3 rfl (zo rfl (aT rfl rfl rfl (bO aV (s.aU (k:=8) rfl hX))) ?_)
    refine zd rfl (af rfl rfl er) ?_ ?_
    ·intro J
     have J:64<b.length:=by simp at J; omega
     exact zk 8 rfl (WP.ret ⟨aa,_,rfl,.inr (.inl ⟨hd,fun q=>by omega,rfl,s0⟩)⟩)
    ·intro J
     have J:b.length≤64:=by simp at J; omega
     refine zk 7 rfl (zc rfl (mV hT s0 hf) ?_)
     rintro v h (⟨h0,rfl,s⟩ | ⟨h0,rfl,s⟩)
     ·skip
      exact zo rfl (cX rfl rfl) (zk 7 rfl (WP.ret ⟨aa,_,rfl,.inr (.inr (.inl ⟨hd,hq,I,J,h0,rfl,s⟩))⟩))
     ·skip
      obtain ⟨pg,wt,nw,lg,mk,tn,tl,ops,s⟩:=bW.1 s
      dsimp only [Dk.c6] at s
      obtain ⟨k,rfl⟩:∃k:Nat,n=k:=⟨n.toNat,by omega⟩
      refine zo rfl (cX rfl rfl) (za rfl (zv (zj rfl (WP.skip (zg rfl (zk 3 rfl (zf rfl (pV _ _) (zl rfl (by exact s.ld (k:=0) rfl cS rfl) ?_))))))))
      refine zm rfl (zo rfl (c_ (p:=some (.int .i64 (k:Int))) (q:=none) (m:=none) (p':=some k) (q':=none) (m':=none) rfl rfl rfl rfl (by simp [iN,bndV]) rfl rfl (cD (s.buf (k:=4) rfl).view (a:=k) (by omega)).1) ?_)
      refine zc rfl (jD hT (s.ae [4]) (zR (bz _ _) (a:=k) (by omega)) (by simp; omega)) ?_
      intro v h s
      have hv:=(s.buf (k:=0) rfl).view.cells
      refine zn rfl (zf rfl (pV _ _) (zS rfl (s.gO (k:=2) rfl jT rfl (by decide) hv.1 hv.2) ?_))
      intro h s
      have s:=(s.del 1).ae [1,1,1,1,0,0,0,0]
      refine zk 5 rfl (zf rfl (vq _ _) (zl rfl (s.ld (k:=0) rfl cA rfl) (zm rfl (zb rfl (by exact iB (aB (by omega) (by omega))) ?_))))
      refine zn rfl (zf rfl (vq _ _) ?_)
      refine zS rfl (by exact s.gO (k:=0) rfl kA rfl (by decide) rfl rfl) (fun h s => ?_)
      refine zk 5 rfl (zc rfl (jD hT (s.ae [8]) hX (by omega)) ?_)
      intro u h s
      have s:=s.gu
      have hu:=(s.aU (k:=0) rfl (fe _ _)).cells
      refine zn rfl (zf rfl (CS _ _) (zS rfl (s.gO (k:=2) rfl jT rfl (by decide) hu.1 hu.2) ?_))
      intro h s
      refine zk 5 rfl (WP.ret ⟨aa,_,rfl,?_⟩)
      have s:=(s.del 7).ae [2,2,2,2,2,0,1,1,0]
      dsimp only [BK,bf,bringA,Nat.reduceAdd,List.set,setA,getA] at s
      have e:(δ.bT:Int)-(k:Int)=((δ.bT-k:Nat):Int):=by omega
      rw [e] at s
      exact .inr (.inr (.inr ⟨hd,hq,I,J,h0,rfl,bW.2 ⟨pg,wt,nw,v,u,tn,tl,ops,s⟩⟩))
def Dk.fresh (aM room:Nat): Dk:={ room:=room,aM:=List.replicate aM none,waiting:=[],now:=[],log:=[],bT:=0,mark:=[],bj := -1,dead:=false,C2:=none,tail:=[] }
theorem RL : ∃i,Tryz.prog.info? 28=some i∧i.size=1∧i.bytes=24 :=
 ⟨_,(show Tryz.prog.info? 28=some ((Tryz.prog.info? 28).getD default) by kernel_rfl),by kernel_rfl,by kernel_rfl⟩
theorem Hi (v:V): ∀n:Nat,repeatL [v] n=List.replicate n v:=by
 intro n
 induction n with
 | zero=>rfl
 | succ n I=>simp only [repeatL,I,uH,gy,dn]
theorem LY {a b:PM}: ∀n:Nat,(each pn (List.replicate n .bu) (List.replicate n none)).p a b:=by
 intro n
 induction n with
 | zero=>trivial
 | succ n I=>exact ⟨rfl,I⟩
theorem Oq (hT:W told){n m:Nat}(s:Sat h S)(hn:n<1073741824): Call ⟨Tryz.prog,told⟩ 88 [.int .i64 (n:Int),.int .i64 (m:Int)] h fun v h'=>∃p,v=.ptr p 0∧Sat h' (aL p (Dk.fresh n m)::S):=by
 refine Call.of_wp (hT.free _ rfl) Tryz.func88 rfl rfl (zK 8 rfl ?_)
 obtain ⟨i1,I,J,tY⟩:=RL
 obtain ⟨id,h1,e1,s1⟩:=DH (P:=Tryz.prog) s gZ I qR J (by omega) rfl (by decide) hn
 refine az.any rfl rfl rfl (OpR.of (R:=fun v h'=>v=.sl id 0 n (.exact n)∧h'=h1) (ry rfl rfl e1) ⟨rfl,rfl⟩) ?_
 rintro v h ⟨rfl,rfl⟩
 have s:=s1
 dsimp only [V.cells] at s
 rw [cx,Hi] at s
 refine az.CN s rfl rfl rfl rfl (fun p8 h s => ?_)
 refine zo rfl (dA rfl (by rw [VK]; rfl)) ?_
 refine az.cz s rfl rfl rfl (fc rfl rfl) (fun p10 h s => ?_)
 refine zk 2 rfl (WP.ret ⟨aa,_,rfl,?_⟩)
 have s:=(sY (f:=fun v b=>au.c5 v b) (s.ae [1]))
 have s:=s.tV.tV.sW
 have s:Sat _ (zU .bu []::_):=tX.2 ⟨[],(s.gr (φ:=True) aa).nI⟩
 have s:Sat _ (BM .b7 none::_):=s.gr rfl
 have s:=s.ae [6,6]
 have hp:Sat _ (nL (.sl id 0 n (.exact n)) (List.replicate n none)::_):=kD.2 ⟨id,List.replicate n .bu,by rw [cY],by
  rw [cY]
  exact (((s.ae [1]).gr (φ:=True) aa).iU fun a b _=>LY n).ae [1]⟩
 dsimp only [V.cells,List.take,List.length_cons,List.length_nil,Nat.reduceAdd,List.drop,List.cons_append,List.nil_append,bf,bringA,getA] at hp
 exact ⟨_,rfl,bW.2 ⟨_,_,_,_,_,_,_,_,hp.ae [1,0,1,4,1,1,0,0]⟩⟩
theorem RM (hT:W told){n m:Int}(s:Sat h S): Call ⟨Tryz.prog,told⟩ 70 [.int .i64 n,.int .i64 m] h fun v h' =>
  (¬(1≤n∧n≤65536∧0≤m∧m≤16777216)∧v=.aY [.b7,.int .i64 1]∧Sat h' S) ∨
  (1≤n∧n≤65536∧0≤m∧m≤16777216∧∃p,v=.aY [.ptr p 0,.int .i64 0]∧Sat h' (aL p (Dk.fresh n.toNat m.toNat)::S)):=by
 refine Call.of_wp (hT.free _ rfl) Tryz.func70 rfl rfl (zK 9 rfl ?_)
 refine zd rfl (af rfl rfl aK) ?_ ?_
 ·intro hq
  have hq:n<1:=by simpa using hq
  exact zk 19 rfl (WP.ret ⟨aa,_,rfl,.inl ⟨fun q=>by omega,rfl,s⟩⟩)
 ·intro hq
  have hq:1≤n:=by simpa using hq
  refine zk 2 rfl ?_
  refine zd rfl (af rfl rfl er) ?_ ?_
  ·intro I
   have I:65536<n:=by simpa using I
   exact zk 16 rfl (WP.ret ⟨aa,_,rfl,.inl ⟨fun q=>by omega,rfl,s⟩⟩)
  ·intro I
   have I:n≤65536:=by simpa using I
   refine zk 3 rfl ?_
   refine zd rfl (af rfl rfl aK) ?_ ?_
   ·intro J
    have J:m<0:=by simpa using J
    exact zk 12 rfl (WP.ret ⟨aa,_,rfl,.inl ⟨fun q=>by omega,rfl,s⟩⟩)
   ·intro J
    have J:0≤m:=by simpa using J
    refine zk 3 rfl ?_
    refine zd rfl (af rfl rfl er) ?_ ?_
    ·intro oC
     have oC:16777216<m:=by simpa using oC
     exact zk 8 rfl (WP.ret ⟨aa,_,rfl,.inl ⟨fun q=>by omega,rfl,s⟩⟩)
    ·intro oC
     have oC:m≤16777216:=by simpa using oC
     refine zk 8 rfl ?_
     obtain ⟨n,rfl⟩:∃k:Nat,n=k:=⟨n.toNat,by omega⟩
     obtain ⟨m,rfl⟩:∃k:Nat,m=k:=⟨m.toNat,by omega⟩
     refine zc rfl (Oq hT s (by omega)) ?_
     rintro v h ⟨p,rfl,s⟩
     exact zk 3 rfl (WP.ret ⟨aa,_,rfl,.inr ⟨hq,I,J,oC,p,rfl,s⟩⟩)
end
def leN : List Nat→Nat
 | []=>0
 | b::l=>b+256*leN l
theorem Ot : ∀(l:List Nat) (b:Nat),leN (l++[b])=leN l+b*256^l.length:=by
 intro l
 induction l with
 | nil=>intro b; simp [leN]
 | cons x l I=>intro b; simp only [gy,leN,I,aH,rU,Nat.mul_add]; rw [←jf,rT (256^l.length) 256,←Nat.mul_assoc b,rT b 256,Nat.mul_assoc 256 b]
theorem FH : ∀(l:List Nat),(∀b∈l,b<256)→leN l<256^l.length:=by
 intro l
 induction l with
 | nil=>intro _; simp [leN]
 | cons x l I =>
  intro h
  have h1:=I (fun b J=>h b (b6 _ J))
  have h2:=h x ct
  simp only [leN,aH,rU]
  omega
theorem FI (i:Nat): (256:Nat)^i=2^(8*i):=by rw [Nat.pow_mul]
theorem Ys {P:Program}{h:H}{t:TypeId}{x y:Operand}{d i:Nat}(hd:d<256)(hi:i≤7): binV P h .shl t x y (.int .u64 (d:Int)) (.int .i64 (8*(i:Int)))=some (.int .u64 ((d*256^i:Nat):Int)):=by
 have J:(256:Nat)^i≤256^7:=yH (by omega) hi
 have I:d*256^i<18446744073709551616:=by
  have:d*256^i≤255*256^7:=yR (by omega) J
  omega
 simp only [binV,shiftV,IntKind.bits]
 have e:(8*(i:Int)).toNat=8*i:=by omega
 rw [e,show min (8*i) 64=8*i by omega,show decide (8*(i:Int)<0)=false by simp; omega,ay]
 have:(d:Int)*2^(8*i)=((d*256^i:Nat):Int):=by rw [FI]; push_cast; rfl
 simp only [this,wrap_u64 I]
theorem Z2 {P:Program}{h:H}{t:TypeId}{x y:Operand}{a d i:Nat}(I:a<256^i)(hd:d<256)(hi:i≤7): binV P h .or t x y (.int .u64 (a:Int)) (.int .u64 ((d*256^i:Nat):Int))=some (.int .u64 ((a+d*256^i:Nat):Int)):=by
 have J:(256:Nat)^i≤256^7:=yH (by omega) hi
 have hm:d*256^i≤255*256^7:=yR (by omega) J
 have h1:((a:Int)%(2^(IntKind.u64).bits:Int)).toNat=a:=by simp only [IntKind.bits]; omega
 have h2:(((d*256^i:Nat):Int)%(2^(IntKind.u64).bits:Int)).toNat=d*256^i:=by simp only [IntKind.bits]; omega
 have h3:Nat.lor a (d*256^i)=a+d*256^i:=by
  have e:d*256^i=2^(8*i)*d:=by rw [←FI,rT]
  have:=Nat.two_pow_add_eq_or_of_lt (i:=8*i) (b:=a) (by rw [←FI]; exact I) d
  rw [←e] at this
  rw [uV a,this]
  exact Nat.or_comm _ _
 simp only [binV,ikBeq,ag,intV,bitsV,h1,h2,h3]
 rw [wrap_u64 (by omega)]
section
variable {told:cZ} {h:H} {S:List au} {X:au} {k:Nat} {v:V} {l:List Nat}
noncomputable def Z3 : Code:=cV [1,1,0,1,0,0] ((Tryz.f86.body).getD .skip)
theorem LZ (hv:View h v l)(hl:l.length≤8): ∀(j i:Nat) (E:List (Nat×V)) (Q:Ex→List (Nat×V)→H→Prop),i+j=l.length →
  Has E [(3,.int .u64 (leN (l.take i))),(6,v),(7,.int .i64 l.length),(8,.int .i64 i)]→(∀E',look E' 3=some (.int .u64 (leN l))→Q (.exit 0) E' h)→WP ⟨Tryz.prog,told⟩ 22 (.loop Z3) E h Q:=by
 intro j
 induction j with
 | zero =>
  intro i E Q hi hE hq
  refine WP.loop (WP.has hE (zg rfl (zh rfl (af rfl rfl aK) (by simp; omega) ?_)))
  refine zk 3 rfl (WP.exit (hq _ ?_))
  rw [fq (by omega)]
  rfl
 | succ j ih =>
  intro i E Q hi hE hq
  have J:l[i]?=some (l[i]'(by omega)):=aN _
  generalize Ib:(l[i]'(by omega))=b at J
  have I:b<256:=hv.1 b (a_ J)
  obtain ⟨id,off,e1,e2⟩:=dR hv J
  have ht:l.take (i+1)=l.take i++[b]:=by rw [yL,J]; rfl
  have bC:leN (l.take i)<256^i:=by
   have:=FH (l.take i) (fun x hx=>hv.1 x (je hx))
   rwa [kZ,rP (by omega)] at this
  refine WP.loop (WP.has hE (zg rfl (zt rfl (af rfl rfl aK) (by simp; omega) ?_)))
  refine zk 5 rfl (WP.block (zK 3 rfl (zo rfl (cn (r:=.ptr id off) rfl rfl e1) (zl rfl e2 (zk 6 rfl (zo rfl (b9 rfl (by exact ji Tryz.underlying5 cG (ff (by omega) (by omega)))) ?_))))))
  refine zm rfl (zb rfl (by exact jB (aB (by omega) (by omega))) ?_)
  refine zb rfl (Ys I (by omega)) ?_
  refine zb rfl (Z2 bC I (by omega)) ?_
  refine za rfl (zv (zr rfl (zb rfl (by exact bg (aB (by omega) (by omega))) ?_)))
  refine zm rfl (zv ?_)
  refine ih (i+1) _ _ (by omega) ?_ hq
  rw [ht,Ot,kZ,rP (by omega)]
  exact ⟨rfl,rfl,rfl,rfl,aa⟩
theorem C3 (J:W told)(s:Sat h S)(hk:getA S k=some X)(hX:c8 X (c9 v l))(hl:l.length≤8): Call ⟨Tryz.prog,told⟩ 86 [v] h fun r h'=>r=.int .u64 (leN l)∧h'=h:=by
 have hv:=s.aU hk hX
 refine Call.of_wp (J.free _ rfl) Tryz.func86 rfl rfl (zK 12 rfl (zo rfl (aT rfl rfl rfl (bO aV hv)) (zk 2 rfl (WP.block ?_))))
 refine LZ hv hl l.length 0 _ _ (by omega) ⟨rfl,rfl,rfl,rfl,aa⟩ (fun E' I => ?_)
 exact WP.has (F:=[(3,.int .u64 (leN l))]) ⟨I,aa⟩ (zK 5 rfl (WP.ret ⟨aa,_,rfl,rfl,rfl⟩))
theorem Qw (I:W told)(s:Sat h S)(J:getA S k=some X)(hX:c8 X (c9 v l))(hl:l.length≤4611686018427387904): Call ⟨Tryz.prog,told⟩ 171 [v] h fun r h'=>r=.int .u32 (xO 0 l:Nat)∧h'=h:=by
 refine Call.of_wp (I.free _ rfl) Tryz.func171 rfl rfl (zK 7 rfl (zc rfl (RH (s:=0) I s J hX (by decide) hl) ?_))
 rintro v h' ⟨rfl,rfl⟩
 exact zk 2 rfl (WP.ret ⟨aa,_,rfl,rfl,rfl⟩)
def cT (l:List Nat)(a z:Nat): Nat:=leN ((l.take (a+z)).drop a)
theorem s_ (hT:W told){a z:Int}(s:Sat h S)(J:getA S k=some X)(hX:c8 X (c9 v l))(ha:0≤a)(hz:1≤z)(Xb:z≤7)(hl:a+z≤l.length)(jQ:l.length≤65536):
  Call ⟨Tryz.prog,told⟩ 154 [.agg [v],.int .i64 a,.int .i64 z] h fun r h'=>r=.int .i64 (cT l a.toNat z.toNat)∧Sat h' S:=by
 have hv:=s.aU J hX
 obtain ⟨pi,po,pc,rfl⟩:=iu hv (by omega)
 refine Call.of_wp (hT.free _ rfl) Tryz.func154 rfl rfl (zg rfl ?_)
 refine az.cz s rfl rfl rfl (fc rfl rfl) (fun p3 h s => ?_)
 refine zk 4 rfl (zf rfl (gC _ _) (zl rfl (s.ld (k:=0) rfl cS rfl) (zk 3 rfl (zb rfl (by exact bg (aB (by omega) (by omega))) ?_))))
 refine zk 2 rfl (zb rfl (by exact bg (aB (by omega) (by omega))) ?_)
 have ku:=Au (s.aU (mu J) hX) (a:=a.toNat) (b:=(a+z).toNat) (c:=(a+z).toNat) (by omega) (by omega) (by omega) (by omega)
 refine zo rfl (c_ (p:=some (.int .i64 a)) (q:=some (.int .i64 (a+z))) (m:=some (.int .i64 (a+z))) rfl rfl rfl rfl (dU ha) (dU (by omega)) (dU (by omega)) ku) ?_
 have hlen:((l.take (a+z).toNat).drop a.toNat).length=z.toNat:=by simp; omega
 refine zc rfl (C3 hT s (mu J) (DI hX (a:=a.toNat) (b:=(a+z).toNat) (c:=(a+z).toNat) (by omega) (by omega) (by omega) (by omega)) (by omega)) ?_
 rintro r h' ⟨rfl,rfl⟩
 have I:=FH ((l.take (a+z).toNat).drop a.toNat) (fun x hx=>hv.1 x (je (iH hx)))
 have hp:256^z.toNat≤256^7:=yH (by omega) (by omega)
 rw [hlen] at I
 have e:(a+z).toNat=a.toNat+z.toNat:=by omega
 rw [e] at I ⊢
 refine zo rfl (b9 rfl (by exact ji cG bI (aB (by omega) (by omega)))) ?_
 exact zk 2 rfl (WP.ret ⟨aa,_,rfl,rfl,s.drop⟩)
theorem xQ {a z:Nat}(I:∀b∈l,b<256): cT l a z<256^z:=by
 have:=FH ((l.take (a+z)).drop a) (fun x J=>I x (je (iH J)))
 have h2:((l.take (a+z)).drop a).length≤z:=by simp; omega
 exact ie this (yH (by omega) h2)
def j7 (l:List Nat): Nat:=cT l 14 2
def hG (l:List Nat): Nat:=cT l 16 2
def c7 (l:List Nat)(i:Nat): Nat:=cT l (26+4*i) 2
def hO (l:List Nat)(i:Nat): Nat:=cT l (26+4*i+2) 2
theorem kL (I:W told)(s:Sat h S)(J:getA S k=some X)(hX:c8 X (c9 v l))(hl:l.length=512):
  Call ⟨Tryz.prog,told⟩ 101 [.agg [v]] h fun r h'=>r=.int .i64 (j7 l)∧Sat h' S:=by
 have hv:=s.aU J hX
 obtain ⟨pi,po,pc,rfl⟩:=iu hv (by omega)
 refine Call.of_wp (I.free _ rfl) Tryz.func101 rfl rfl (zg rfl ?_)
 refine az.cz s rfl rfl rfl (fc rfl rfl) (fun p1 h s => ?_)
 refine zk 4 rfl (zl rfl (s.bZ (k:=0) rfl cg bA) (zc rfl (s_ I s (mu J) hX (by decide) (by decide) (by decide) (by omega) (by omega)) ?_))
 rintro r h' ⟨rfl,s⟩
 exact zk 2 rfl (WP.ret ⟨aa,_,rfl,rfl,s.drop⟩)
theorem FJ (I:W told)(s:Sat h S)(J:getA S k=some X)(hX:c8 X (c9 v l))(hl:l.length=512):
  Call ⟨Tryz.prog,told⟩ 156 [.agg [v]] h fun r h'=>r=.int .i64 (hG l)∧Sat h' S:=by
 have hv:=s.aU J hX
 obtain ⟨pi,po,pc,rfl⟩:=iu hv (by omega)
 refine Call.of_wp (I.free _ rfl) Tryz.func156 rfl rfl (zg rfl ?_)
 refine az.cz s rfl rfl rfl (fc rfl rfl) (fun p1 h s => ?_)
 refine zk 4 rfl (zl rfl (s.bZ (k:=0) rfl cg bA) (zc rfl (s_ I s (mu J) hX (by decide) (by decide) (by decide) (by omega) (by omega)) ?_))
 rintro r h' ⟨rfl,s⟩
 exact zk 2 rfl (WP.ret ⟨aa,_,rfl,rfl,s.drop⟩)
end
def eo (t:List Bool): List V:=t.map V.bool
theorem vx (t:List Bool)(k:Nat)(b:Bool): (eo t).set k (.bool b)=eo (t.set k b):=by simp [eo,List.map_set]
theorem IB {t:List Bool}{k:Nat}(I:k<t.length): nth (eo t) k=some (.bool (t.getD k false)):=by
 rw [fG]; simp [eo,aN I]
theorem Ou : zeroT Tryz.prog 227=some (.agg (eo (List.replicate 512 false))):=by kernel_rfl
def markL : Nat→Nat→List Bool→Option (List Bool)
 | 0,_,t=>some t
 | n+1,k,t=>if t.getD k false then none else markL n (k+1) (t.set k true)
def cellsL (l:List Nat)(low:Nat): Nat→Nat→List Bool→Bool
 | 0,_,_=>true
 | n+1,i,t=>if c7 l i<low∨512<c7 l i+hO l i then false else match markL (hO l i) (c7 l i) t with
  | none=>false
  | some t'=>cellsL l low n (i+1) t'
def cj (l:List Nat): Bool:=decide (l.length=512)&&(decide (l.getD 13 0=0)&&(decide (26+4*j7 l≤hG l∧hG l≤512)&&cellsL l (hG l) (j7 l) 0 (List.replicate 512 false)))
theorem L0 : ∀(n k:Nat) (t t':List Bool),markL n k t=some t'→t'.length=t.length:=by
 intro n
 induction n with
 | zero=>intro k t t' h; simp only [markL] at h; injection h with h; subst h; rfl
 | succ n I =>
  intro k t t' h
  simp only [markL] at h
  split at h
  ·cases h
  ·have:=I _ _ _ h; simpa using this
section
variable {told:cZ} {h:H} {S:List au} {X:au} {k:Nat} {v:V} {l:List Nat}
theorem zV (I:W told){i:Nat}(s:Sat h S)(J:getA S k=some X)(hX:c8 X (c9 v l))(hl:l.length=512)(hi:30+4*i≤512):
  Call ⟨Tryz.prog,told⟩ 155 [.agg [v],.int .i64 (i:Int)] h fun r h'=>r=.aY [.int .i64 (c7 l i),.int .i64 (hO l i)]∧Sat h' S:=by
 have hv:=s.aU J hX
 obtain ⟨pi,po,pc,rfl⟩:=iu hv (by omega)
 have e1:(26+4*(i:Int)).toNat=26+4*i:=by omega
 have e2:(26+4*(i:Int)+2).toNat=26+4*i+2:=by omega
 refine Call.of_wp (I.free _ rfl) Tryz.func155 rfl rfl (zg rfl ?_)
 refine az.cz s rfl rfl rfl (fc rfl rfl) (fun p2 h s => ?_)
 refine zk 6 rfl (zb rfl (by exact jB (aB (by omega) (by omega))) ?_)
 refine zb rfl (by exact bg (aB (by omega) (by omega))) ?_
 refine zk 3 rfl ?_
 have s0:=s
 refine WP.drawn [ai,ai,ai,some (0,2),some (0,2),some (0,2),ai,ai,ai] rfl (by kernel_rfl) (by kernel_rfl) ?_
 refine zL rfl (s.bZ (k:=0) rfl cg bA) (zM rfl (aA.any rfl rfl rfl rfl (OpR.call rfl rfl rfl rfl (s_ I s (mu J) hX (by omega) (by decide) (by decide) (by omega) (by omega))) ?_))
 rintro r h' ⟨rfl,s⟩
 rw [e1]
 have s1:=s
 refine zL rfl (s.bZ (k:=0) rfl cg bA) (zM rfl (zO rfl (af rfl rfl (by exact bg (aB (by omega) (by omega)))) ?_))
 refine aA.any rfl rfl rfl rfl (OpR.call rfl rfl rfl rfl (s_ I s (mu J) hX (by omega) (by decide) (by decide) (by omega) (by omega))) ?_
 rintro r h' ⟨rfl,s⟩
 rw [e2]
 refine zA rfl (zA rfl ?_)
 refine aA.nil ⟨⟨aa,aa,aa,dB (.inr ⟨rfl,⟨_,aR rfl (s0.bZ (k:=0) rfl cg bA)⟩,aS _ rfl⟩) (.inr ⟨rfl,⟨_,aR rfl (s1.bZ (k:=0) rfl cg bA)⟩,aS _ rfl⟩),fun _ _=>.inr ⟨rfl,⟨_,bF rfl⟩,aS _ rfl⟩,fun _ _=>.inr ⟨rfl,⟨_,af rfl rfl (by exact bg (aB (by omega) (by omega)))⟩,aS _ rfl⟩,aa,aa,aa,aa⟩,?_⟩
 refine WP.ret ⟨aa,_,rfl,?_⟩
 exact ⟨rfl,s.drop⟩
noncomputable def Z4 : Code:=cV [1,1,1,1,1,1,0,1,0,0] ((Tryz.f107.body).getD .skip)
noncomputable def Z5 : Code:=cV [1,1,1,1,1,1,0,1,0,0,1,1,0,0,1,1,1,1,0,0] ((Tryz.f107.body).getD .skip)
theorem JZ {p6 a z:Nat}{v3 v4 v5 v35 v36:V}(haz:a+z≤512): ∀(m q:Nat) (t:List Bool) (h:H) (E:List (Nat×V)) (Q:Ex→List (Nat×V)→H→Prop),q+m=a+z→t.length=512 →
  Sat h (pt p6 (.cells 512 (eo t) false)::S)→Has E [(3,v3),(4,v4),(5,v5),(6,.ptr p6 0),(8,.int .i64 (a:Int)),(9,.int .i64 (z:Int)),(10,.int .i64 (q:Int)),(35,v35),(36,v36)] →
  (markL m q t=none→∀E' h',look E' 2=some (.bool false)→Sat h' S→Q .ret E' h') →
  (∀t' E' h',markL m q t=some t'→Has E' [(3,v3),(4,v4),(5,v5),(6,.ptr p6 0),(35,v35),(36,v36)]→Sat h' (pt p6 (.cells 512 (eo t') false)::S)→Q (.exit 2) E' h') →
  WP ⟨Tryz.prog,told⟩ 68 (.loop Z5) E h Q:=by
 intro m
 induction m with
 | zero =>
  intro q t h E Q hq ht s hE J hx
  refine WP.loop (WP.has hE (zK 6 rfl (zb rfl (by exact bg (aB (by omega) (by omega))) ?_)))
  refine zh rfl (af rfl rfl aK) (by simp; omega) ?_
  exact zk 2 rfl (WP.exit (hx t _ _ rfl ⟨rfl,rfl,rfl,rfl,rfl,rfl,aa⟩ s))
 | succ m ih =>
  intro q t h E Q hq ht s hE J hx
  have I:q<t.length:=by omega
  refine WP.loop (WP.has hE (zK 6 rfl (zb rfl (by exact bg (aB (by omega) (by omega))) ?_)))
  refine zt rfl (af rfl rfl aK) (by simp; omega) ?_
  refine zk 4 rfl (WP.block (zK 4 rfl (zo rfl (cn (r:=.ptr p6 q) rfl rfl (by rw [Ql,show (decide ((0:Int)≤(q:Int))&&decide ((q:Int)<((512:Nat):Int)))=true by simp; omega,ag]; simp)) ?_)))
  cases hm:t.getD q false with
  | true =>
   refine zt rfl (aR rfl (s.ld (k:=0) rfl kB (IB I))) (hm) (zk 6 rfl (WP.ret ?_))
   refine J ?_ _ _ rfl s.drop
   rw [markL,aq hm]
  | false =>
   refine zh rfl (aR rfl (s.ld (k:=0) rfl kB (IB I))) (hm) (zk 5 rfl (zo rfl (cn (r:=.ptr p6 q) rfl rfl (by rw [Ql,show (decide ((0:Int)≤(q:Int))&&decide ((q:Int)<((512:Nat):Int)))=true by simp; omega,ag]; simp)) ?_))
   refine zS rfl (s.gO (k:=0) rfl oS (by simp [eo,ht]) (by omega) rfl rfl) ?_
   intro h s
   dsimp only [setA] at s
   rw [vx] at s
   refine zv (zr rfl (zm rfl (zb rfl (by exact bg (aB (by omega) (by omega))) ?_)))
   refine za rfl (zv ?_)
   have e:markL (m+1) q t=markL m (q+1) (t.set q true):=by rw [markL,ah (by rw [hm]; decide)]
   rw [e] at J hx
   exact ih (q+1) (t.set q true) h _ Q (by omega) (by simp [ht]) s ⟨rfl,rfl,rfl,rfl,rfl,rfl,rfl,rfl,rfl,aa⟩ J hx
theorem J0 (hT:W told){p6 p3:Nat}{n low:Nat}{x:V}(hX:c8 X (c9 x l))(hl:l.length=512)(bC:∀b∈l,b<256)(Fc:x.cells=[x])(hx2:storable x=true)(hn:n=j7 l)(p_:26+4*n≤low)(aah:low≤512): ∀(m i:Nat) (t:List Bool) (h:H) (E:List (Nat×V)) (Q:Ex→List (Nat×V)→H→Prop),i+m=n→t.length=512 →
  Sat h (pt p6 (.cells 512 (eo t) false)::pt p3 (.cells 1 [x] false)::X::S)→Has E [(3,.ptr p3 0),(4,.int .i64 (n:Int)),(5,.int .i64 (low:Int)),(6,.ptr p6 0),(35,.int .i64 (n:Int)),(36,.int .i64 (i:Int))] →
  (cellsL l low m i t=false→∀E' h',look E' 2=some (.bool false)→Sat h' (X::S)→Q .ret E' h') →
  (cellsL l low m i t=true→∀E' h',Sat h' (X::S)→Q (.exit 0) E' h') →
  WP ⟨Tryz.prog,told⟩ 68 (.loop Z4) E h Q:=by
 intro m
 induction m with
 | zero =>
  intro i t h E Q hi ht s hE J hx
  refine WP.loop (WP.has hE (zg rfl (zh rfl (af rfl rfl aK) (by simp; omega) ?_)))
  exact zk 3 rfl (WP.exit (hx rfl _ _ s.drop.drop))
 | succ m ih =>
  intro i t h E Q hi ht s hE J hx
  have hf:=xQ (l:=l) (a:=26+4*i) (z:=2) bC
  have hz:=xQ (l:=l) (a:=26+4*i+2) (z:=2) bC
  have ef:c7 l i=cT l (26+4*i) 2:=rfl
  have ez:hO l i=cT l (26+4*i+2) 2:=rfl
  refine WP.loop (WP.has hE (zg rfl (zt rfl (af rfl rfl aK) (by simp; omega) ?_)))
  refine zk 5 rfl (WP.block (zK 7 rfl (zl rfl (s.bZ (k:=1) rfl cg bA) (zm rfl (zc rfl (zV (i:=i) hT s (k:=2) rfl hX hl (by omega)) ?_)))))
  rintro r h' ⟨rfl,s⟩
  refine zk 11 rfl ?_
  refine zd rfl (af rfl rfl aK) ?_ ?_
  ·intro hq
   have hq:c7 l i<low:=by simp at hq; omega
   refine zk 12 rfl (WP.ret ?_)
   refine J ?_ _ _ rfl s.drop.drop
   rw [cellsL,aq (.inl hq)]
  ·intro hq
   have hq:low≤c7 l i:=by simp at hq; omega
   refine zk 3 rfl (zb rfl (by exact bg (aB (by omega) (by omega))) ?_)
   refine zd rfl (af rfl rfl er) ?_ ?_
   ·intro I
    have I:512<c7 l i+hO l i:=by simp at I; omega
    refine zk 7 rfl (WP.ret ?_)
    refine J ?_ _ _ rfl s.drop.drop
    rw [cellsL,aq (.inr I)]
   ·intro I
    have I:c7 l i+hO l i≤512:=by simp at I; omega
    refine zk 9 rfl (WP.block ?_)
    have e:cellsL l low (m+1) i t=(match markL (hO l i) (c7 l i) t with | none=>false | some t'=>cellsL l low m (i+1) t'):=by rw [cellsL,ah (by omega)]
    rw [e] at J hx
    refine JZ I (hO l i) (c7 l i) t _ _ _ rfl ht s ⟨rfl,rfl,rfl,rfl,rfl,rfl,rfl,rfl,rfl,aa⟩ (fun hm E' h' h2 s' => ?_) (fun t' E' h' hm jl s' => ?_)
    ·rw [hm] at J
     exact J rfl _ _ h2 s'.drop
    ·rw [hm] at J hx
     refine WP.has jl (zr rfl (zb rfl (by exact bg (aB (by omega) (by omega))) ?_))
     refine zm rfl (zv ?_)
     exact ih (i+1) t' h' _ Q (by omega) (by rw [L0 _ _ _ _ hm,ht]) s' ⟨rfl,rfl,rfl,rfl,rfl,rfl,aa⟩ J hx
theorem IC (hT:W told)(s:Sat h (X::S))(hX:c8 X (c9 v l))(jQ:l.length<9223372036854775808):
  Call ⟨Tryz.prog,told⟩ 107 [v] h fun r h'=>r=.bool (cj l)∧Sat h' (X::S):=by
 have hv:=s.aU (k:=0) rfl hX
 refine Call.of_wp (hT.free _ rfl) Tryz.func107 rfl rfl (zK 8 rfl (zo rfl (aT rfl rfl rfl (bO aV (s.aU (k:=0) rfl hX))) ?_))
 refine zd rfl (af rfl rfl aG) ?_ ?_
 ·intro hq
  have hq:l.length≠512:=by simp at hq; omega
  exact zk 12 rfl (WP.ret ⟨aa,_,rfl,by rw [cj,eA hq,gT],s⟩)
 ·intro hq
  have hq:l.length=512:=by simp at hq; omega
  have hb:l[13]?=some (l[13]'(by omega)):=aN _
  generalize Ib:(l[13]'(by omega))=b at hb
  have wP:l.getD 13 0=b:=by rw [dL,hb]; rfl
  obtain ⟨id,off,e1,e2⟩:=dR hv hb
  refine zk 2 rfl (zo rfl (cn (r:=.ptr id off) rfl rfl e1) (zl rfl e2 ?_))
  refine zd rfl (af rfl rfl aG) ?_ ?_
  ·intro I
   have I:b≠0:=by simp at I; omega
   exact zk 7 rfl (WP.ret ⟨aa,_,rfl,by rw [cj,dX hq,wP,eA I,gT,Ct],s⟩)
  ·intro I
   have I:b=0:=by simp at I; omega
   obtain ⟨pi,po,pc,rfl⟩:=iu hv (by omega)
   refine zk 7 rfl (zo rfl (dA rfl (by rw [zJ]; rfl)) ?_)
   refine az.cz s rfl rfl rfl (cy jC) (fun p3 h s => ?_)
   refine zS rfl (s.eZ (j:=0) rfl bA rfl rfl) (fun h s => ?_)
   refine zk 2 rfl ?_
   have s0:=s
   refine WP.drawn [none,none,some (0,2),ai,ai,ai] rfl (by kernel_rfl) (by kernel_rfl) ?_
   refine zL rfl (s.bZ (k:=0) rfl cg bA) (aA.any rfl rfl rfl rfl (OpR.call rfl rfl rfl rfl (kL hT s (k:=1) rfl hX hq)) ?_)
   rintro r h' ⟨rfl,s⟩
   have s1:=s
   refine zL rfl (s.bZ (k:=0) rfl cg bA) (aA.any rfl rfl rfl rfl (OpR.call rfl rfl rfl rfl (FJ hT s (k:=1) rfl hX hq)) ?_)
   rintro r h' ⟨rfl,s⟩
   refine zA rfl (zA rfl ?_)
   refine aA.nil ⟨⟨aa,aa,dB (.inr ⟨rfl,⟨_,aR rfl (s0.bZ (k:=0) rfl cg bA)⟩,aS _ rfl⟩) (.inr ⟨rfl,⟨_,aR rfl (s1.bZ (k:=0) rfl cg bA)⟩,aS _ rfl⟩),aa,aa,aa,aa⟩,?_⟩
   have Bb:=xQ (l:=l) (a:=14) (z:=2) hv.1
   have tM:=xQ (l:=l) (a:=16) (z:=2) hv.1
   have ec:j7 l=cT l 14 2:=rfl
   have el:hG l=cT l 16 2:=rfl
   refine zK 4 rfl (zb rfl (by exact jB (aB (by omega) (by omega))) ?_)
   refine zb rfl (by exact bg (aB (by omega) (by omega))) ?_
   refine zm rfl ?_
   refine zd rfl (af rfl rfl er) ?_ ?_
   ·intro J
    have J:hG l<26+4*j7 l:=by simp at J; omega
    exact zk 10 rfl (WP.ret ⟨aa,_,rfl,by rw [cj,dX hq,wP,dX I,eA (by omega:¬(26+4*j7 l≤hG l∧hG l≤512))]; rfl,s.drop⟩)
   ·intro J
    have J:26+4*j7 l≤hG l:=by simp at J; omega
    refine zk 2 rfl ?_
    refine zd rfl (af rfl rfl er) ?_ ?_
    ·intro oC
     have oC:512<hG l:=by simp at oC; omega
     exact zk 7 rfl (WP.ret ⟨aa,_,rfl,by rw [cj,dX hq,wP,dX I,eA (by omega:¬(26+4*j7 l≤hG l∧hG l≤512))]; rfl,s.drop⟩)
    ·intro oC
     have oC:hG l≤512:=by simp at oC; omega
     refine zk 6 rfl (az.cz s rfl rfl rfl (cy Ou) ?_)
     intro p6 h s
     have Dt:(eo (List.replicate 512 false)).length=512:=by rw [eo,dF,cY]
     dsimp only [V.cells] at s
     rw [Dt] at s
     refine zk 7 rfl (WP.block ?_)
     have hg:cj l=cellsL l (hG l) (j7 l) 0 (List.replicate 512 false):=by
      rw [cj,dX hq,wP,dX I,dX (⟨J,oC⟩:26+4*j7 l≤hG l∧hG l≤512)]; rfl
     refine J0 hT hX hq hv.1 rfl rfl rfl J oC (j7 l) 0 (List.replicate 512 false) _ _ _ (by omega) cY s ⟨rfl,rfl,rfl,rfl,rfl,rfl,aa⟩ (fun hc E' h' h2 s' => ?_) (fun hc E' h' s' => ?_)
     ·rw [hg,hc]
      exact ⟨aa,_,qQ h2,rfl,s'⟩
     ·rw [hg,hc]
      exact WP.has (F:=[]) aa (zK 4 rfl (WP.ret ⟨aa,_,rfl,rfl,s'⟩))
end
end Go.Proofs.YtefepnnfphdkpaaGreat.Am
