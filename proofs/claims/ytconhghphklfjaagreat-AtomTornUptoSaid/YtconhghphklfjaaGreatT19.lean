/- AtomTorn: a part of its proof; conditions: its statement's. -/
import Derived.Test.YtconhghphklfjaaGreatT18
set_option linter.defProp false
namespace Go.Proofs.YtconhghphklfjaaGreat.Am
open Go
def zW:=@Tryz.underlying120
section
variable {told:dM} {h:H} {S:List ax} {X:ax} {p:Nat} {δ:Dk}
def Dk.wr (δ:Dk)(n:Int)(b:List Nat): Dk:={ δ.c9 with waiting:=δ.waiting++[(n.toNat,b)],now:=cN n b δ.now }
theorem T0 : ∃i,Tryz.prog.info? 125=some i∧i.size=2∧i.bytes=32 :=
 ⟨_,(show Tryz.prog.info? 125=some ((Tryz.prog.info? 125).getD default) by kernel_rfl),by kernel_rfl,by kernel_rfl⟩
theorem Sat.Wk {cs:List V}{m:List Wr}{u:V}{x:Wr}(s:Sat h (.ct u x.2::uK cs m::S))(hu:u≠.bz): Sat h (uK (cs++[.int .i64 (x.1:Int),u]) (m++[x])::S) :=
 s.two (aH.ct _ _) (aH.wr _ _) fun _ _ I J=>TY J hu I
theorem Oa (hT:W told){n:Int}{x:V}{b:List Nat}(s:Sat h (aG p δ::X::S))(hX:cU X (cY x b))(hb:b.length<1073741824)(hf:δ.aD<4294967296)(hw:δ.waiting.length≤268435456):
  Call ⟨Tryz.prog,told⟩ 108 [.ptr p 0,.int .i64 n,x] h fun v h' =>
  (δ.dead=true∧v=.int .i64 9∧Sat h' (aG p δ::X::S)) ∨
  (δ.dead=false∧¬(0≤n∧n<δ.aq.length∧b.length=512)∧v=.int .i64 1∧Sat h' (aG p δ::X::S)) ∨
  (δ.dead=false∧0≤n∧n<δ.aq.length∧b.length=512∧δ.aD=0∧v=.int .i64 9∧Sat h' (aG p { δ.die with dh:=some (n.toNat,b) }::X::S)) ∨
  (δ.dead=false∧0≤n∧n<δ.aq.length∧b.length=512∧δ.aD≠0∧v=.int .i64 0∧Sat h' (aG p (δ.wr n b)::X::S)):=by
 have J:=s
 obtain ⟨pg,wt,nw,lg,mk,tn,tl,ops,s⟩:=bt.1 s
 refine Call.of_wp (hT.free _ rfl) Tryz.func108 rfl rfl (zK 5 rfl (WP.block (zK 4 rfl (zf rfl (jt _ _) ?_))))
 refine zd rfl (aW rfl (s.ld (k:=0) rfl ke rfl)) ?_ ?_
 ·intro U
  exact zk 7 rfl (WP.ret ⟨aa,_,rfl,.inl ⟨U,rfl,J⟩⟩)
 ·intro U
  refine zk 7 rfl (zc rfl (N_ hT J) ?_)
  rintro v h' ⟨rfl,(⟨HA,ZF,rfl⟩ | ⟨hn,rfl⟩)⟩
  ·skip
   refine zo rfl (dS rfl rfl) (zk 2 rfl (zo rfl (bf rfl rfl rfl (bj aS (s.aL (k:=8) rfl hX))) ?_))
   refine zd rfl (ah rfl rfl aV) ?_ ?_
   ·intro I
    have I:b.length≠512:=by simp at I; omega
    exact zk 8 rfl (WP.ret ⟨aa,_,rfl,.inr (.inl ⟨U,fun q=>I q.2.2,rfl,J⟩)⟩)
   ·intro I
    have I:b.length=512:=by simp at I; omega
    refine zk 2 rfl (zv (zj rfl (WP.skip (zg rfl (zk 2 rfl (zc rfl (gQ hT (J.ae [1]) hX hb) ?_))))))
    intro u h s
    obtain ⟨yx,_,cap,_,rfl,_⟩:=s.kM (by omega)
    have s:=s.fN
    have ZG:((n.toNat:Nat):Int)=n:=by omega
    refine zo rfl (c8 rfl (by rw [Yc]; rfl)) ?_
    refine aB.cT s rfl rfl rfl (cI Gj) (fun p7 h s => ?_)
    refine zS rfl (s.ia (j:=0) rfl C1 rfl rfl) (fun h s => ?_)
    refine zk 5 rfl (zc rfl (mN hT (s.ae [3]) hf) ?_)
    rintro v h (⟨h0,rfl,s⟩ | ⟨h0,rfl,s⟩)
    ·skip
     obtain ⟨pg,wt,nw,lg,mk,tn,tl,ops,s⟩:=bt.1 s
     refine zo rfl (dS rfl rfl) (zk 6 rfl (zf rfl (uG _ _) ?_))
     refine zS rfl (by exact s.ee (k:=0) rfl Ya rfl (by decide) rfl rfl) (fun h s => ?_)
     dsimp only [vl,V.cells,List.length_cons,List.length_nil,Nat.reduceAdd,aU,bringA,List.take,List.drop,List.cons_append,List.nil_append,setA,List.set] at s
     refine zk 5 rfl (WP.ret ⟨aa,_,rfl,?_⟩)
     have s1:=s.ae [8,8,8]
     have s2:Sat h (Ba _ (some (n.toNat,b))::_):=gu.2 ⟨_,gu.2 ⟨_,en.2 (eR.2 ⟨rfl,by rw [ZG]; exact s1⟩)⟩⟩
     have s3:=(s2.del 8).ae [2,2,2,2,2,2,0,1,0]
     exact .inr (.inr (.inl ⟨U,HA,ZF,I,h0,rfl,bt.2 ⟨_,_,_,_,_,_,_,_,s3⟩⟩))
    ·skip
     obtain ⟨pg,wt,nw,lg,mk,tn,tl,ops,s⟩:=bt.1 s
     dsimp only [Dk.c9] at s
     obtain ⟨cs,sw⟩:=mM.1 (s.ae [2])
     have s:=sw.ae [2,8,0,0]
     dsimp only [vl,V.cells,List.length_cons,List.length_nil,Nat.reduceAdd,aU,bringA,List.take,List.drop,List.cons_append,List.nil_append,setA,getA] at s
     have J:=s
     have ZH:=(s.kU (j:=2) rfl).2.2
     refine zo rfl (dS rfl rfl) (zk 4 rfl (WP.drawn [some (0,3),some (0,2),some (0,2),some (0,2),some (0,2),ai,ai,ai,ai,ai,ai] rfl (by kernel_rfl) (by kernel_rfl) ?_))
     refine zM rfl (zM rfl (zN rfl (zF rfl (tZ _ _) (zL rfl (s.ld (k:=0) rfl C0 rfl) (zL rfl (s.fM (k:=1) rfl Sy C1) ?_)))))
     obtain ⟨i1,lZ,kf,sR⟩:=T0
     obtain ⟨sv,h1,e1,s1⟩:=oc (P:=Tryz.prog) (x:=.agg [.int .i64 n,.sl yx 0 b.length cap]) s zW Gj C1 rfl (by decide) (by decide) rfl rfl
     dsimp only [V.cells] at s1
     refine aA.any rfl rfl rfl rfl (OpR.of (R:=fun v h'=>v=sv∧h'=h1) (qu rfl e1) ⟨rfl,rfl⟩) ?_
     rintro v h' ⟨rfl,rfl⟩
     have kg:cs.length=δ.waiting.length*2:=by
      obtain ⟨a,b,q1,q2,q3⟩:=s.at (k:=3) rfl
      exact A9 q3
     obtain ⟨wt',h2,e2,s2⟩:=jB (s1.ae [3,0]) zW lZ Gj kf (by omega) rfl (by decide) (by simp only [V.cells,bl,bY]; omega)
     dsimp only [aU,bringA] at s2
     refine aA.any rfl rfl rfl rfl (OpR.of (R:=fun v h'=>v=wt'∧h'=h2) (oT rfl rfl e2) ⟨rfl,rfl⟩) ?_
     rintro v h' ⟨rfl,rfl⟩
     have hv:=s2.kU (j:=0) rfl
     refine zN rfl (zF rfl (tZ _ _) (aA.h_ rfl rfl rfl (OpR.eA rfl rfl rfl (s2.ee (k:=2) rfl Sx rfl (by decide) hv.1 hv.2.1)) ?_))
     rintro v h ⟨rfl,s⟩
     dsimp only [Nat.reduceAdd,List.set,setA] at s
     refine aA.nil ⟨⟨fun _ _=>.inr ⟨rfl,⟨_,bn rfl⟩,aX _ rfl⟩,fun _ _=>.inr ⟨rfl,⟨_,bn rfl⟩,aX _ rfl⟩,fun _ _=>.inr ⟨rfl,⟨_,kq rfl⟩,aX _ rfl⟩,fun _ _=>.inr ⟨rfl,⟨_,jI rfl (tZ _ _)⟩,aX _ rfl⟩,dX (.inr ⟨rfl,⟨_,aW rfl (J.ld (k:=0) rfl C0 rfl)⟩,ZH⟩) (.inr ⟨rfl,⟨_,aW rfl (s1.ld (k:=1) rfl C0 rfl)⟩,ZH⟩),aa,aa,aa,aa,aa,aa,aa⟩,?_⟩
     refine zw (WP.drawn [ai,ai,ai,ai,ai,ai,ai,ai] rfl (by kernel_rfl) (by kernel_rfl) ?_)
     refine zM rfl (zN rfl (zF rfl (A4 _ _) (zL rfl (s.ld (k:=2) rfl mB rfl) (zM rfl (zF rfl (Es _ _) (zL rfl (s.ld (k:=3) rfl bO rfl) (aA.h_ rfl rfl rfl (OpR.mapUpdate rfl rfl rfl rfl (oZ (f:=fun v b=>ax.ct v b) (x:=b) (fun _ _=>aH.ct _ _) (((s.ae [11]).dup (aH.ct _ _)).ae [0,7]) lN bG)) ?_)))))))
     intro v h s
     dsimp only [aU,bringA] at s
     refine aA.nil ⟨⟨aa,aa,aa,aa,aa,aa,aa,aa,aa⟩,?_⟩
     refine zK 4 rfl (WP.ret ⟨aa,_,rfl,?_⟩)
     have s1:=(s.ae [1,5]).Wk (x:=(n.toNat,b)) (by simp)
     rw [ZG] at s1
     have s2:=((mM.2 ⟨_,s1.ae [2,0]⟩).del 4).del 2
     exact .inr (.inr (.inr ⟨U,HA,ZF,I,h0,rfl,bt.2 ⟨_,_,_,_,_,_,_,_,s2.ae [2,2,0,0,0,0,0,0,0]⟩⟩))
  ·skip
   exact zo rfl (dS rfl rfl) (zk 12 rfl (WP.ret ⟨aa,_,rfl,.inr (.inl ⟨U,fun q=>hn ⟨q.1,q.2.1⟩,rfl,J⟩)⟩))
theorem T1 (J:W told)(s:Sat h (aG p δ::S))(U:δ.log.length<1073741824): Call ⟨Tryz.prog,told⟩ 103 [.ptr p 0] h fun v h' =>
  (δ.dead=true∧v=.bE [.bz,.int .i64 9]∧Sat h' (aG p δ::S))∨(δ.dead=false∧∃b,v=.bE [b,.int .i64 0]∧Sat h' (bK b δ.log::aG p δ::S)):=by
 have s0:=s
 obtain ⟨pg,wt,nw,lg,mk,tn,tl,ops,s⟩:=bt.1 s
 refine Call.of_wp (J.free _ rfl) Tryz.func103 rfl rfl (zK 10 rfl (zf rfl (jt _ _) ?_))
 refine zd rfl (aW rfl (s.ld (k:=0) rfl ke rfl)) ?_ ?_
 ·intro I
  exact zk 7 rfl (WP.ret ⟨aa,_,rfl,.inl ⟨I,rfl,s0⟩⟩)
 ·intro I
  refine zk 7 rfl (zf rfl (js _ _) (zl rfl (s.ld (k:=0) rfl bO rfl) (zc rfl (gQ J (s.ae [4]) (bM _ _) U) ?_)))
  intro v h s
  exact zk 3 rfl (WP.ret ⟨aa,_,rfl,.inr ⟨I,v,rfl,(bt.2 ⟨pg,wt,nw,lg,mk,tn,tl,ops,s.ae [2,2,2,2,1,1,1,1,0]⟩).ae [1]⟩⟩)
theorem Dc (J:W told)(s:Sat h (aG p δ::S))(hl:δ.mark.length≤64): Call ⟨Tryz.prog,told⟩ 102 [.ptr p 0] h fun v h' =>
  (δ.dead=true∧v=.bE [.bz,.int .i64 9]∧Sat h' (aG p δ::S))∨(δ.dead=false∧∃b,v=.bE [b,.int .i64 0]∧Sat h' (bK b δ.mark::aG p δ::S)):=by
 have U:=s
 obtain ⟨pg,wt,nw,lg,mk,tn,tl,ops,s⟩:=bt.1 s
 refine Call.of_wp (J.free _ rfl) Tryz.func102 rfl rfl (zK 10 rfl (zf rfl (jt _ _) ?_))
 refine zd rfl (aW rfl (s.ld (k:=0) rfl ke rfl)) ?_ ?_
 ·intro I
  exact zk 7 rfl (WP.ret ⟨aa,_,rfl,.inl ⟨I,rfl,U⟩⟩)
 ·intro I
  refine zk 7 rfl (zf rfl (wF _ _) (zl rfl (s.ld (k:=0) rfl bO rfl) (zc rfl (gQ J (s.ae [5]) (cJ _ _) (by omega)) ?_)))
  intro v h s
  exact zk 3 rfl (WP.ret ⟨aa,_,rfl,.inr ⟨I,v,rfl,(bt.2 ⟨pg,wt,nw,lg,mk,tn,tl,ops,s.ae [2,2,2,2,2,1,1,1,0]⟩).ae [1]⟩⟩)
theorem QA (U:W told){x:V}{b:List Nat}(s:Sat h (aG p δ::X::S))(hX:cU X (cY x b))(hf:δ.aD<4294967296):
  Call ⟨Tryz.prog,told⟩ 110 [.ptr p 0,x] h fun v h' =>
  (δ.dead=true∧v=.int .i64 9∧Sat h' (aG p δ::X::S))∨(δ.dead=false∧64<b.length∧v=.int .i64 1∧Sat h' (aG p δ::X::S)) ∨
  (δ.dead=false∧b.length≤64∧δ.aD=0∧v=.int .i64 9∧Sat h' (aG p δ.die::X::S)) ∨
  (δ.dead=false∧b.length≤64∧δ.aD≠0∧v=.int .i64 0∧Sat h' (aG p { δ.c9 with mark:=b }::X::S)):=by
 have s0:=s
 obtain ⟨pg,wt,nw,lg,mk,tn,tl,ops,s⟩:=bt.1 s
 refine Call.of_wp (U.free _ rfl) Tryz.func110 rfl rfl (zK 5 rfl (WP.block (zK 4 rfl (zf rfl (jt _ _) ?_))))
 refine zd rfl (aW rfl (s.ld (k:=0) rfl ke rfl)) ?_ ?_
 ·intro J
  exact zk 7 rfl (WP.ret ⟨aa,_,rfl,.inl ⟨J,rfl,s0⟩⟩)
 ·intro J
  refine zk 6 rfl (zo rfl (bf rfl rfl rfl (bj aS (s.aL (k:=8) rfl hX))) ?_)
  refine zd rfl (ah rfl rfl ep) ?_ ?_
  ·intro I
   have I:64<b.length:=by simp at I; omega
   exact zk 7 rfl (WP.ret ⟨aa,_,rfl,.inr (.inl ⟨J,I,rfl,s0⟩)⟩)
  ·intro I
   have I:b.length≤64:=by simp at I; omega
   refine zk 6 rfl (zc rfl (mN U s0 hf) ?_)
   rintro v h (⟨h0,rfl,s⟩ | ⟨h0,rfl,s⟩)
   ·skip
    exact zo rfl (dS rfl rfl) (zk 7 rfl (WP.ret ⟨aa,_,rfl,.inr (.inr (.inl ⟨J,I,h0,rfl,s⟩))⟩))
   ·skip
    refine zo rfl (dS rfl rfl) (za rfl (zv (zj rfl (WP.skip (zg rfl (zk 2 rfl (zc rfl (gQ U (s.ae [1]) hX (by omega)) ?_)))))))
    intro v h s
    have s:=(s.fN).ae [2,0,0]
    obtain ⟨pg,wt,nw,lg,mk,tn,tl,ops,s⟩:=bt.1 s
    dsimp only [Dk.c9] at s
    have hv:=(s.aL (k:=8) rfl (cJ _ _)).cells
    refine zn rfl (zf rfl (wF _ _) (zS rfl (s.ee (k:=0) rfl jM rfl (by decide) hv.1 hv.2) ?_))
    intro h s
    exact zk 5 rfl (WP.ret ⟨aa,_,rfl,.inr (.inr (.inr ⟨J,I,h0,rfl,bt.2 ⟨pg,wt,nw,lg,v,tn,tl,ops,(s.del 5).ae [0,0,0,0,0,2,0,0,0]⟩⟩))⟩)
theorem QB (hT:W told){n:Int}(s:Sat h (aG p δ::S))(hf:δ.aD<4294967296)(hl:δ.log.length<1073741824):
  Call ⟨Tryz.prog,told⟩ 104 [.ptr p 0,.int .i64 n] h fun v h' =>
  (δ.dead=true∧v=.int .i64 9∧Sat h' (aG p δ::S))∨(δ.dead=false∧¬(0≤n∧n≤δ.log.length)∧v=.int .i64 1∧Sat h' (aG p δ::S)) ∨
  (δ.dead=false∧0≤n∧n≤δ.log.length∧δ.aD=0∧v=.int .i64 9∧Sat h' (aG p δ.die::S)) ∨
  (δ.dead=false∧0≤n∧n≤δ.log.length∧δ.aD≠0∧v=.int .i64 0∧Sat h' (aG p { δ.c9 with log:=δ.log.take n.toNat,aJ:=n.toNat }::S)):=by
 have s0:=s
 obtain ⟨pg,wt,nw,lg,mk,tn,tl,ops,s⟩:=bt.1 s
 refine Call.of_wp (hT.free _ rfl) Tryz.func104 rfl rfl (zK 5 rfl (WP.block (zK 4 rfl (zf rfl (jt _ _) ?_))))
 refine zd rfl (aW rfl (s.ld (k:=0) rfl ke rfl)) ?_ ?_
 ·intro U
  exact zk 7 rfl (WP.ret ⟨aa,_,rfl,.inl ⟨U,rfl,s0⟩⟩)
 ·intro U
  refine zk 6 rfl ?_
  refine zd rfl (ah rfl rfl bB) ?_ ?_
  ·intro J
   have J:n<0:=by simpa using J
   exact zk 16 rfl (WP.ret ⟨aa,_,rfl,.inr (.inl ⟨U,fun q=>by omega,rfl,s0⟩)⟩)
  ·intro J
   have J:0≤n:=by simpa using J
   refine zk 4 rfl (zf rfl (js _ _) (zl rfl (s.ld (k:=0) rfl bO rfl) (zo rfl (bf rfl rfl rfl (bj aS (s.aL (k:=4) rfl (bM _ _)))) ?_)))
   refine zd rfl (ah rfl rfl ep) ?_ ?_
   ·intro I
    have I:(δ.log.length:Int)<n:=by simpa using I
    exact zk 8 rfl (WP.ret ⟨aa,_,rfl,.inr (.inl ⟨U,fun q=>by omega,rfl,s0⟩)⟩)
   ·intro I
    have I:n≤δ.log.length:=by simpa using I
    refine zk 7 rfl (zc rfl (mN hT s0 hf) ?_)
    rintro v h (⟨h0,rfl,s⟩ | ⟨h0,rfl,s⟩)
    ·skip
     exact zo rfl (dS rfl rfl) (zk 7 rfl (WP.ret ⟨aa,_,rfl,.inr (.inr (.inl ⟨U,J,I,h0,rfl,s⟩))⟩))
    ·skip
     obtain ⟨pg,wt,nw,lg,mk,tn,tl,ops,s⟩:=bt.1 s
     dsimp only [Dk.c9] at s
     obtain ⟨k,rfl⟩:∃k:Nat,n=k:=⟨n.toNat,by omega⟩
     refine zo rfl (dS rfl rfl) (za rfl (zv (zj rfl (WP.skip (zg rfl (zk 3 rfl (zf rfl (js _ _) (zl rfl (by exact s.ld (k:=0) rfl bO rfl) ?_))))))))
     refine zm rfl (zo rfl (cF (p:=none) (q:=some (.int .i64 (k:Int))) (m:=none) (p':=none) (q':=some k) (m':=none) rfl rfl rfl rfl rfl (by simp [g8,bndV]) rfl (iz (s.buf (k:=4) rfl).view (b:=k) (by omega)).1) ?_)
     refine zc rfl (gQ hT (s.ae [4]) (xx (bM _ _) (b:=k) (by omega)) (by simp; omega)) ?_
     intro v h s
     have hv:=(s.buf (k:=0) rfl).view.cells
     refine zn rfl (zf rfl (js _ _) (zS rfl (s.ee (k:=2) rfl jM rfl (by decide) hv.1 hv.2) ?_))
     intro h s
     refine zk 6 rfl (zf rfl (ob _ _) ?_)
     refine zS rfl (by exact s.ee (k:=2) rfl jK rfl (by decide) rfl rfl) (fun h s => ?_)
     refine zk 5 rfl (WP.ret ⟨aa,_,rfl,?_⟩)
     have s:=(s.del 1).ae [1,1,1,1,0,0,0,0]
     exact .inr (.inr (.inr ⟨U,J,I,h0,rfl,bt.2 ⟨pg,wt,nw,v,mk,tn,tl,ops,s⟩⟩))
theorem T2 (hT:W told){n:Int}{x:V}{b:List Nat}(s:Sat h (aG p δ::X::S))(hX:cU X (cY x b))(hf:δ.aD<4294967296)(hl:δ.log.length<1073741824)(hc:δ.aJ≤δ.log.length):
  Call ⟨Tryz.prog,told⟩ 112 [.ptr p 0,.int .i64 n,x] h fun v h' =>
  (δ.dead=true∧v=.int .i64 9∧Sat h' (aG p δ::X::S))∨(δ.dead=false∧¬(0≤n∧n≤δ.aJ∧b.length≤64)∧v=.int .i64 1∧Sat h' (aG p δ::X::S)) ∨
  (δ.dead=false∧0≤n∧n≤δ.aJ∧b.length≤64∧δ.aD=0∧v=.int .i64 9∧Sat h' (aG p δ.die::X::S)) ∨
  (δ.dead=false∧0≤n∧n≤δ.aJ∧b.length≤64∧δ.aD≠0∧v=.int .i64 0∧Sat h' (aG p { δ.c9 with log:=δ.log.drop n.toNat,aJ:=δ.aJ-n.toNat,mark:=b }::X::S)):=by
 have s0:=s
 obtain ⟨pg,wt,nw,lg,mk,tn,tl,ops,s⟩:=bt.1 s
 refine Call.of_wp (hT.free _ rfl) Tryz.func112 rfl rfl (zK 5 rfl (WP.block (zK 4 rfl (zf rfl (jt _ _) ?_))))
 refine zd rfl (aW rfl (s.ld (k:=0) rfl ke rfl)) ?_ ?_
 ·intro U
  exact zk 7 rfl (WP.ret ⟨aa,_,rfl,.inl ⟨U,rfl,s0⟩⟩)
 ·intro U
  refine zk 6 rfl ?_
  refine zd rfl (ah rfl rfl bB) ?_ ?_
  ·intro hq
   have hq:n<0:=by simpa using hq
   exact zk 20 rfl (WP.ret ⟨aa,_,rfl,.inr (.inl ⟨U,fun q=>by omega,rfl,s0⟩)⟩)
  ·intro hq
   have hq:0≤n:=by simpa using hq
   refine zk 4 rfl (zf rfl (ob _ _) (zl rfl (s.ld (k:=0) rfl dA rfl) ?_))
   refine zd rfl (ah rfl rfl ep) ?_ ?_
   ·intro I
    have I:(δ.aJ:Int)<n:=by simpa using I
    exact zk 13 rfl (WP.ret ⟨aa,_,rfl,.inr (.inl ⟨U,fun q=>by omega,rfl,s0⟩)⟩)
   ·intro I
    have I:n≤δ.aJ:=by simpa using I
    refine zk 3 rfl (zo rfl (bf rfl rfl rfl (bj aS (s.aL (k:=8) rfl hX))) ?_)
    refine zd rfl (ah rfl rfl ep) ?_ ?_
    ·intro J
     have J:64<b.length:=by simp at J; omega
     exact zk 8 rfl (WP.ret ⟨aa,_,rfl,.inr (.inl ⟨U,fun q=>by omega,rfl,s0⟩)⟩)
    ·intro J
     have J:b.length≤64:=by simp at J; omega
     refine zk 7 rfl (zc rfl (mN hT s0 hf) ?_)
     rintro v h (⟨h0,rfl,s⟩ | ⟨h0,rfl,s⟩)
     ·skip
      exact zo rfl (dS rfl rfl) (zk 7 rfl (WP.ret ⟨aa,_,rfl,.inr (.inr (.inl ⟨U,hq,I,J,h0,rfl,s⟩))⟩))
     ·skip
      obtain ⟨pg,wt,nw,lg,mk,tn,tl,ops,s⟩:=bt.1 s
      dsimp only [Dk.c9] at s
      obtain ⟨k,rfl⟩:∃k:Nat,n=k:=⟨n.toNat,by omega⟩
      refine zo rfl (dS rfl rfl) (za rfl (zv (zj rfl (WP.skip (zg rfl (zk 3 rfl (zf rfl (js _ _) (zl rfl (by exact s.ld (k:=0) rfl bO rfl) ?_))))))))
      refine zm rfl (zo rfl (cF (p:=some (.int .i64 (k:Int))) (q:=none) (m:=none) (p':=some k) (q':=none) (m':=none) rfl rfl rfl rfl (by simp [g8,bndV]) rfl rfl (eC (s.buf (k:=4) rfl).view (a:=k) (by omega)).1) ?_)
      refine zc rfl (gQ hT (s.ae [4]) (od (bM _ _) (a:=k) (by omega)) (by simp; omega)) ?_
      intro v h s
      have hv:=(s.buf (k:=0) rfl).view.cells
      refine zn rfl (zf rfl (js _ _) (zS rfl (s.ee (k:=2) rfl jM rfl (by decide) hv.1 hv.2) ?_))
      intro h s
      have s:=(s.del 1).ae [1,1,1,1,0,0,0,0]
      refine zk 5 rfl (zf rfl (ob _ _) (zl rfl (s.ld (k:=0) rfl dA rfl) (zm rfl (zb rfl (by exact lV (aY (by omega) (by omega))) ?_))))
      refine zn rfl (zf rfl (ob _ _) ?_)
      refine zS rfl (by exact s.ee (k:=0) rfl jK rfl (by decide) rfl rfl) (fun h s => ?_)
      refine zk 5 rfl (zc rfl (gQ hT (s.ae [8]) hX (by omega)) ?_)
      intro u h s
      have s:=s.fN
      have hu:=(s.aL (k:=0) rfl (cJ _ _)).cells
      refine zn rfl (zf rfl (wF _ _) (zS rfl (s.ee (k:=2) rfl jM rfl (by decide) hu.1 hu.2) ?_))
      intro h s
      refine zk 5 rfl (WP.ret ⟨aa,_,rfl,?_⟩)
      have s:=(s.del 7).ae [2,2,2,2,2,0,1,1,0]
      dsimp only [vl,aU,bringA,Nat.reduceAdd,List.set,setA,getA] at s
      have e:(δ.aJ:Int)-(k:Int)=((δ.aJ-k:Nat):Int):=by omega
      rw [e] at s
      exact .inr (.inr (.inr ⟨U,hq,I,J,h0,rfl,bt.2 ⟨pg,wt,nw,v,u,tn,tl,ops,s⟩⟩))
def Dk.fresh (aq room:Nat): Dk:={ room:=room,aq:=List.replicate aq none,waiting:=[],now:=[],log:=[],aJ:=0,mark:=[],aD := -1,dead:=false,dh:=none,tail:=[] }
theorem T3 : ∃i,Tryz.prog.info? 32=some i∧i.size=1∧i.bytes=24 :=
 ⟨_,(show Tryz.prog.info? 32=some ((Tryz.prog.info? 32).getD default) by kernel_rfl),by kernel_rfl,by kernel_rfl⟩
theorem Jk (v:V): ∀n:Nat,repeatL [v] n=List.replicate n v:=by
 intro n
 induction n with
 | zero=>rfl
 | succ n I=>simp only [repeatL,I,tC,fF,cW]
theorem Ob {a b:PM}: ∀n:Nat,(each lP (List.replicate n .bz) (List.replicate n none)).p a b:=by
 intro n
 induction n with
 | zero=>trivial
 | succ n I=>exact ⟨rfl,I⟩
theorem HB (hT:W told){n m:Nat}(s:Sat h S)(hn:n<1073741824): Call ⟨Tryz.prog,told⟩ 63 [.int .i64 (n:Int),.int .i64 (m:Int)] h fun v h'=>∃p,v=.ptr p 0∧Sat h' (aG p (Dk.fresh n m)::S):=by
 refine Call.of_wp (hT.free _ rfl) Tryz.func63 rfl rfl (zK 8 rfl ?_)
 obtain ⟨i1,I,J,sR⟩:=T3
 obtain ⟨id,h1,e1,s1⟩:=zJ (P:=Tryz.prog) s uI I zC J (by omega) rfl (by decide) hn
 refine aB.any rfl rfl rfl (OpR.of (R:=fun v h'=>v=.sl id 0 n (.exact n)∧h'=h1) (rY rfl rfl e1) ⟨rfl,rfl⟩) ?_
 rintro v h ⟨rfl,rfl⟩
 have s:=s1
 dsimp only [V.cells] at s
 rw [dW,Jk] at s
 refine aB.zB s rfl rfl rfl rfl (fun p8 h s => ?_)
 refine zo rfl (c8 rfl (by rw [Yb]; rfl)) ?_
 refine aB.cT s rfl rfl rfl (gL rfl rfl) (fun p10 h s => ?_)
 refine zk 2 rfl (WP.ret ⟨aa,_,rfl,?_⟩)
 have s:=(uH (f:=fun v b=>ax.ct v b) (s.ae [1]))
 have s:=s.r7.r7.zI
 have s:Sat _ (A_ .bz []::_):=mM.2 ⟨[],(s.gB (φ:=True) aa).qC⟩
 have s:Sat _ (Ba .cK none::_):=s.gB rfl
 have s:=s.ae [6,6]
 have U:Sat _ (oP (.sl id 0 n (.exact n)) (List.replicate n none)::_):=gv.2 ⟨id,List.replicate n .bz,by rw [fE],by
  rw [fE]
  exact (((s.ae [1]).gB (φ:=True) aa).fY fun a b _=>Ob n).ae [1]⟩
 dsimp only [V.cells,List.take,List.length_cons,List.length_nil,Nat.reduceAdd,List.drop,List.cons_append,List.nil_append,aU,bringA,getA] at U
 exact ⟨_,rfl,bt.2 ⟨_,_,_,_,_,_,_,_,U.ae [1,0,1,4,1,1,0,0]⟩⟩
theorem T4 (hT:W told){n m:Int}(s:Sat h S): Call ⟨Tryz.prog,told⟩ 41 [.int .i64 n,.int .i64 m] h fun v h' =>
  (¬(1≤n∧n≤65536∧0≤m∧m≤16777216)∧v=.bE [.cK,.int .i64 1]∧Sat h' S) ∨
  (1≤n∧n≤65536∧0≤m∧m≤16777216∧∃p,v=.bE [.ptr p 0,.int .i64 0]∧Sat h' (aG p (Dk.fresh n.toNat m.toNat)::S)):=by
 refine Call.of_wp (hT.free _ rfl) Tryz.func41 rfl rfl (zK 9 rfl ?_)
 refine zd rfl (ah rfl rfl bB) ?_ ?_
 ·intro hq
  have hq:n<1:=by simpa using hq
  exact zk 19 rfl (WP.ret ⟨aa,_,rfl,.inl ⟨fun q=>by omega,rfl,s⟩⟩)
 ·intro hq
  have hq:1≤n:=by simpa using hq
  refine zk 2 rfl ?_
  refine zd rfl (ah rfl rfl ep) ?_ ?_
  ·intro I
   have I:65536<n:=by simpa using I
   exact zk 16 rfl (WP.ret ⟨aa,_,rfl,.inl ⟨fun q=>by omega,rfl,s⟩⟩)
  ·intro I
   have I:n≤65536:=by simpa using I
   refine zk 3 rfl ?_
   refine zd rfl (ah rfl rfl bB) ?_ ?_
   ·intro J
    have J:m<0:=by simpa using J
    exact zk 12 rfl (WP.ret ⟨aa,_,rfl,.inl ⟨fun q=>by omega,rfl,s⟩⟩)
   ·intro J
    have J:0≤m:=by simpa using J
    refine zk 3 rfl ?_
    refine zd rfl (ah rfl rfl ep) ?_ ?_
    ·intro U
     have U:16777216<m:=by simpa using U
     exact zk 8 rfl (WP.ret ⟨aa,_,rfl,.inl ⟨fun q=>by omega,rfl,s⟩⟩)
    ·intro U
     have U:m≤16777216:=by simpa using U
     refine zk 8 rfl ?_
     obtain ⟨n,rfl⟩:∃k:Nat,n=k:=⟨n.toNat,by omega⟩
     obtain ⟨m,rfl⟩:∃k:Nat,m=k:=⟨m.toNat,by omega⟩
     refine zc rfl (HB hT s (by omega)) ?_
     rintro v h ⟨p,rfl,s⟩
     exact zk 3 rfl (WP.ret ⟨aa,_,rfl,.inr ⟨hq,I,J,U,p,rfl,s⟩⟩)
end
def leN : List Nat→Nat
 | []=>0
 | b::l=>b+256*leN l
theorem QC : ∀(l:List Nat) (b:Nat),leN (l++[b])=leN l+b*256^l.length:=by
 intro l
 induction l with
 | nil=>intro b; simp [leN]
 | cons x l I=>intro b; simp only [fF,leN,I,bl,pO,Nat.mul_add]; rw [←gK,rB (256^l.length) 256,←Nat.mul_assoc b,rB b 256,Nat.mul_assoc 256 b]
theorem zX : ∀(l:List Nat),(∀b∈l,b<256)→leN l<256^l.length:=by
 intro l
 induction l with
 | nil=>intro _; simp [leN]
 | cons x l I =>
  intro h
  have U:=I (fun b J=>h b (bp _ J))
  have h2:=h x br
  simp only [leN,bl,pO]
  omega
theorem HC (i:Nat): (256:Nat)^i=2^(8*i):=by rw [Nat.pow_mul]
theorem aaN {P:Program}{h:H}{t:TypeId}{x y:Operand}{d i:Nat}(U:d<256)(hi:i≤7): binV P h .shl t x y (.int .u64 (d:Int)) (.int .i64 (8*(i:Int)))=some (.int .u64 ((d*256^i:Nat):Int)):=by
 have J:(256:Nat)^i≤256^7:=pF (by omega) hi
 have I:d*256^i<18446744073709551616:=by
  have:d*256^i≤255*256^7:=tL (by omega) J
  omega
 simp only [binV,shiftV,IntKind.bits]
 have e:(8*(i:Int)).toNat=8*i:=by omega
 rw [e,show min (8*i) 64=8*i by omega,show decide (8*(i:Int)<0)=false by simp; omega,ay]
 have:(d:Int)*2^(8*i)=((d*256^i:Nat):Int):=by rw [HC]; push_cast; rfl
 simp only [this,wrap_u64 I]
theorem or8 {P:Program}{h:H}{t:TypeId}{x y:Operand}{a d i:Nat}(I:a<256^i)(hd:d<256)(hi:i≤7): binV P h .or t x y (.int .u64 (a:Int)) (.int .u64 ((d*256^i:Nat):Int))=some (.int .u64 ((a+d*256^i:Nat):Int)):=by
 have J:(256:Nat)^i≤256^7:=pF (by omega) hi
 have hm:d*256^i≤255*256^7:=tL (by omega) J
 have U:((a:Int)%(2^(IntKind.u64).bits:Int)).toNat=a:=by simp only [IntKind.bits]; omega
 have h2:(((d*256^i:Nat):Int)%(2^(IntKind.u64).bits:Int)).toNat=d*256^i:=by simp only [IntKind.bits]; omega
 have h3:Nat.lor a (d*256^i)=a+d*256^i:=by
  have e:d*256^i=2^(8*i)*d:=by rw [←HC,rB]
  have:=DN (i:=8*i) (b:=a) (by rw [←HC]; exact I) d
  rw [←e] at this
  rw [tO a,this]
  exact Nat.or_comm _ _
 simp only [binV,ikBeq,ag,intV,bitsV,U,h2,h3]
 rw [wrap_u64 (by omega)]
section
variable {told:dM} {h:H} {S:List ax} {X:ax} {k:Nat} {v:V} {l:List Nat}
noncomputable def wdL : Code:=cM [1,1,0,1,0,0] ((Tryz.f61.body).getD .skip)
theorem Oc (U:View h v l)(hl:l.length≤8): ∀(j i:Nat) (E:List (Nat×V)) (Q:Ex→List (Nat×V)→H→Prop),i+j=l.length →
  Has E [(3,.int .u64 (leN (l.take i))),(6,v),(7,.int .i64 l.length),(8,.int .i64 i)]→(∀E',look E' 3=some (.int .u64 (leN l))→Q (.exit 0) E' h)→WP ⟨Tryz.prog,told⟩ 22 (.loop wdL) E h Q:=by
 intro j
 induction j with
 | zero =>
  intro i E Q hi hE hq
  refine WP.loop (WP.has hE (zg rfl (zh rfl (ah rfl rfl bB) (by simp; omega) ?_)))
  refine zk 3 rfl (WP.exit (hq _ ?_))
  rw [fR (by omega)]
  rfl
 | succ j ih =>
  intro i E Q hi hE hq
  have J:l[i]?=some (l[i]'(by omega)):=bg _
  generalize Cz:(l[i]'(by omega))=b at J
  have I:b<256:=U.1 b (bw J)
  obtain ⟨id,off,e1,e2⟩:=iq U J
  have ht:l.take (i+1)=l.take i++[b]:=by rw [AG,J]; rfl
  have bV:leN (l.take i)<256^i:=by
   have:=zX (l.take i) (fun x hx=>U.1 x (gH hx))
   rwa [dP,pM (by omega)] at this
  refine WP.loop (WP.has hE (zg rfl (zt rfl (ah rfl rfl bB) (by simp; omega) ?_)))
  refine zk 5 rfl (WP.block (zK 3 rfl (zo rfl (ej (r:=.ptr id off) rfl rfl e1) (zl rfl e2 (zk 6 rfl (zo rfl (bZ rfl (by exact jJ Tryz.underlying5 cx (fb (by omega) (by omega)))) ?_))))))
  refine zm rfl (zb rfl (by exact BX (aY (by omega) (by omega))) ?_)
  refine zb rfl (aaN I (by omega)) ?_
  refine zb rfl (or8 bV I (by omega)) ?_
  refine za rfl (zv (zr rfl (zb rfl (by exact bU (aY (by omega) (by omega))) ?_)))
  refine zm rfl (zv ?_)
  refine ih (i+1) _ _ (by omega) ?_ hq
  rw [ht,QC,dP,pM (by omega)]
  exact ⟨rfl,rfl,rfl,rfl,aa⟩
theorem qb (U:W told)(s:Sat h S)(hk:getA S k=some X)(hX:cU X (cY v l))(hl:l.length≤8): Call ⟨Tryz.prog,told⟩ 61 [v] h fun r h'=>r=.int .u64 (leN l)∧h'=h:=by
 have J:=s.aL hk hX
 refine Call.of_wp (U.free _ rfl) Tryz.func61 rfl rfl (zK 12 rfl (zo rfl (bf rfl rfl rfl (bj aS J)) (zk 2 rfl (WP.block ?_))))
 refine Oc J hl l.length 0 _ _ (by omega) ⟨rfl,rfl,rfl,rfl,aa⟩ (fun E' I => ?_)
 exact WP.has (F:=[(3,.int .u64 (leN l))]) ⟨I,aa⟩ (zK 5 rfl (WP.ret ⟨aa,_,rfl,rfl,rfl⟩))
theorem SO (I:W told)(s:Sat h S)(J:getA S k=some X)(U:cU X (cY v l))(hl:l.length≤4611686018427387904): Call ⟨Tryz.prog,told⟩ 84 [v] h fun r h'=>r=.int .u32 (zV 0 l:Nat)∧h'=h:=by
 refine Call.of_wp (I.free _ rfl) Tryz.func84 rfl rfl (zK 7 rfl (zc rfl (TZ (s:=0) I s J U (by decide) hl) ?_))
 rintro v h' ⟨rfl,rfl⟩
 exact zk 2 rfl (WP.ret ⟨aa,_,rfl,rfl,rfl⟩)
def dY (l:List Nat)(a z:Nat): Nat:=leN ((l.take (a+z)).drop a)
theorem uL (hT:W told){a z:Int}(s:Sat h S)(J:getA S k=some X)(U:cU X (cY v l))(ha:0≤a)(hz:1≤z)(HD:z≤7)(hl:a+z≤l.length)(kx:l.length≤65536):
  Call ⟨Tryz.prog,told⟩ 83 [.agg [v],.int .i64 a,.int .i64 z] h fun r h'=>r=.int .i64 (dY l a.toNat z.toNat)∧Sat h' S:=by
 have hv:=s.aL J U
 obtain ⟨pi,po,pc,rfl⟩:=kN hv (by omega)
 refine Call.of_wp (hT.free _ rfl) Tryz.func83 rfl rfl (zg rfl ?_)
 refine aB.cT s rfl rfl rfl (gL rfl rfl) (fun p3 h s => ?_)
 refine zk 4 rfl (zf rfl (pX _ _) (zl rfl (s.ld (k:=0) rfl bO rfl) (zk 3 rfl (zb rfl (by exact bU (aY (by omega) (by omega))) ?_))))
 refine zk 2 rfl (zb rfl (by exact bU (aY (by omega) (by omega))) ?_)
 have lK:=Ji (s.aL (tY J) U) (a:=a.toNat) (b:=(a+z).toNat) (c:=(a+z).toNat) (by omega) (by omega) (by omega) (by omega)
 refine zo rfl (cF (p:=some (.int .i64 a)) (q:=some (.int .i64 (a+z))) (m:=some (.int .i64 (a+z))) rfl rfl rfl rfl (fO ha) (fO (by omega)) (fO (by omega)) lK) ?_
 have hlen:((l.take (a+z).toNat).drop a.toNat).length=z.toNat:=by simp; omega
 refine zc rfl (qb hT s (tY J) (N0 U (a:=a.toNat) (b:=(a+z).toNat) (c:=(a+z).toNat) (by omega) (by omega) (by omega) (by omega)) (by omega)) ?_
 rintro r h' ⟨rfl,rfl⟩
 have I:=zX ((l.take (a+z).toNat).drop a.toNat) (fun x hx=>hv.1 x (gH (iC hx)))
 have hp:256^z.toNat≤256^7:=pF (by omega) (by omega)
 rw [hlen] at I
 have e:(a+z).toNat=a.toNat+z.toNat:=by omega
 rw [e] at I ⊢
 refine zo rfl (bZ rfl (by exact jJ cx bG (aY (by omega) (by omega)))) ?_
 exact zk 2 rfl (WP.ret ⟨aa,_,rfl,rfl,s.drop⟩)
theorem qE {a z:Nat}(I:∀b∈l,b<256): dY l a z<256^z:=by
 have:=zX ((l.take (a+z)).drop a) (fun x J=>I x (gH (iC J)))
 have U:((l.take (a+z)).drop a).length≤z:=by simp; omega
 exact gI this (pF (by omega) U)
def ku (l:List Nat): Nat:=dY l 14 2
def iK (l:List Nat): Nat:=dY l 16 2
def jC (l:List Nat)(i:Nat): Nat:=dY l (26+4*i) 2
def mg (l:List Nat)(i:Nat): Nat:=dY l (26+4*i+2) 2
theorem QD (I:W told)(s:Sat h S)(J:getA S k=some X)(U:cU X (cY v l))(hl:l.length=512):
  Call ⟨Tryz.prog,told⟩ 78 [.agg [v]] h fun r h'=>r=.int .i64 (ku l)∧Sat h' S:=by
 have hv:=s.aL J U
 obtain ⟨pi,po,pc,rfl⟩:=kN hv (by omega)
 refine Call.of_wp (I.free _ rfl) Tryz.func78 rfl rfl (zg rfl ?_)
 refine aB.cT s rfl rfl rfl (gL rfl rfl) (fun p1 h s => ?_)
 refine zk 4 rfl (zl rfl (s.fM (k:=0) rfl gO ei) (zc rfl (uL I s (tY J) U (by decide) (by decide) (by decide) (by omega) (by omega)) ?_))
 rintro r h' ⟨rfl,s⟩
 exact zk 2 rfl (WP.ret ⟨aa,_,rfl,rfl,s.drop⟩)
theorem Wl (I:W told)(s:Sat h S)(J:getA S k=some X)(U:cU X (cY v l))(hl:l.length=512):
  Call ⟨Tryz.prog,told⟩ 79 [.agg [v]] h fun r h'=>r=.int .i64 (iK l)∧Sat h' S:=by
 have hv:=s.aL J U
 obtain ⟨pi,po,pc,rfl⟩:=kN hv (by omega)
 refine Call.of_wp (I.free _ rfl) Tryz.func79 rfl rfl (zg rfl ?_)
 refine aB.cT s rfl rfl rfl (gL rfl rfl) (fun p1 h s => ?_)
 refine zk 4 rfl (zl rfl (s.fM (k:=0) rfl gO ei) (zc rfl (uL I s (tY J) U (by decide) (by decide) (by decide) (by omega) (by omega)) ?_))
 rintro r h' ⟨rfl,s⟩
 exact zk 2 rfl (WP.ret ⟨aa,_,rfl,rfl,s.drop⟩)
end
def qV (t:List Bool): List V:=t.map V.bool
theorem Kt (t:List Bool)(k:Nat)(b:Bool): (qV t).set k (.bool b)=qV (t.set k b):=by simp [qV,List.map_set]
theorem Bb {t:List Bool}{k:Nat}(I:k<t.length): nth (qV t) k=some (.bool (t.getD k false)):=by
 rw [fV]; simp [qV,bg I]
theorem QE : zeroT Tryz.prog 147=some (.agg (qV (List.replicate 512 false))):=by kernel_rfl
def markL : Nat→Nat→List Bool→Option (List Bool)
 | 0,_,t=>some t
 | n+1,k,t=>if t.getD k false then none else markL n (k+1) (t.set k true)
def cellsL (l:List Nat)(low:Nat): Nat→Nat→List Bool→Bool
 | 0,_,_=>true
 | n+1,i,t=>if jC l i<low∨512<jC l i+mg l i then false else match markL (mg l i) (jC l i) t with
  | none=>false
  | some t'=>cellsL l low n (i+1) t'
def bT (l:List Nat): Bool:=decide (l.length=512)&&(decide (l.getD 13 0=0)&&(decide (26+4*ku l≤iK l∧iK l≤512)&&cellsL l (iK l) (ku l) 0 (List.replicate 512 false)))
theorem Fz : ∀(n k:Nat) (t t':List Bool),markL n k t=some t'→t'.length=t.length:=by
 intro n
 induction n with
 | zero=>intro k t t' h; simp only [markL] at h; injection h with h; subst h; rfl
 | succ n I =>
  intro k t t' h
  simp only [markL] at h
  split at h
  ·cases h
  ·have:=I _ _ _ h; simpa using this
section
variable {told:dM} {h:H} {S:List ax} {X:ax} {k:Nat} {v:V} {l:List Nat}
theorem T5 (I:W told){i:Nat}(s:Sat h S)(J:getA S k=some X)(U:cU X (cY v l))(hl:l.length=512)(hi:30+4*i≤512):
  Call ⟨Tryz.prog,told⟩ 80 [.agg [v],.int .i64 (i:Int)] h fun r h'=>r=.bE [.int .i64 (jC l i),.int .i64 (mg l i)]∧Sat h' S:=by
 have hv:=s.aL J U
 obtain ⟨pi,po,pc,rfl⟩:=kN hv (by omega)
 have e1:(26+4*(i:Int)).toNat=26+4*i:=by omega
 have e2:(26+4*(i:Int)+2).toNat=26+4*i+2:=by omega
 refine Call.of_wp (I.free _ rfl) Tryz.func80 rfl rfl (zg rfl ?_)
 refine aB.cT s rfl rfl rfl (gL rfl rfl) (fun p2 h s => ?_)
 refine zk 6 rfl (zb rfl (by exact BX (aY (by omega) (by omega))) ?_)
 refine zb rfl (by exact bU (aY (by omega) (by omega))) ?_
 refine zk 3 rfl ?_
 have s0:=s
 refine WP.drawn [ai,ai,ai,some (0,2),some (0,2),some (0,2),ai,ai,ai] rfl (by kernel_rfl) (by kernel_rfl) ?_
 refine zL rfl (s.fM (k:=0) rfl gO ei) (zM rfl (aA.any rfl rfl rfl rfl (OpR.call rfl rfl rfl rfl (uL I s (tY J) U (by omega) (by decide) (by decide) (by omega) (by omega))) ?_))
 rintro r h' ⟨rfl,s⟩
 rw [e1]
 have s1:=s
 refine zL rfl (s.fM (k:=0) rfl gO ei) (zM rfl (zO rfl (ah rfl rfl (by exact bU (aY (by omega) (by omega)))) ?_))
 refine aA.any rfl rfl rfl rfl (OpR.call rfl rfl rfl rfl (uL I s (tY J) U (by omega) (by decide) (by decide) (by omega) (by omega))) ?_
 rintro r h' ⟨rfl,s⟩
 rw [e2]
 refine zA rfl (zA rfl ?_)
 refine aA.nil ⟨⟨aa,aa,aa,dX (.inr ⟨rfl,⟨_,aW rfl (s0.fM (k:=0) rfl gO ei)⟩,aX _ rfl⟩) (.inr ⟨rfl,⟨_,aW rfl (s1.fM (k:=0) rfl gO ei)⟩,aX _ rfl⟩),fun _ _=>.inr ⟨rfl,⟨_,bn rfl⟩,aX _ rfl⟩,fun _ _=>.inr ⟨rfl,⟨_,ah rfl rfl (by exact bU (aY (by omega) (by omega)))⟩,aX _ rfl⟩,aa,aa,aa,aa⟩,?_⟩
 refine WP.ret ⟨aa,_,rfl,?_⟩
 exact ⟨rfl,s.drop⟩
noncomputable def gdO : Code:=cM [1,1,1,1,1,1,0,1,0,0] ((Tryz.f43.body).getD .skip)
noncomputable def gdI : Code:=cM [1,1,1,1,1,1,0,1,0,0,1,1,0,0,1,1,1,1,0,0] ((Tryz.f43.body).getD .skip)
theorem L6 {I a z:Nat}{v3 v4 v5 v35 v36:V}(haz:a+z≤512): ∀(m q:Nat) (t:List Bool) (h:H) (E:List (Nat×V)) (Q:Ex→List (Nat×V)→H→Prop),q+m=a+z→t.length=512 →
  Sat h (pt I (.cells 512 (qV t) false)::S)→Has E [(3,v3),(4,v4),(5,v5),(6,.ptr I 0),(8,.int .i64 (a:Int)),(9,.int .i64 (z:Int)),(10,.int .i64 (q:Int)),(35,v35),(36,v36)] →
  (markL m q t=none→∀E' h',look E' 2=some (.bool false)→Sat h' S→Q .ret E' h') →
  (∀t' E' h',markL m q t=some t'→Has E' [(3,v3),(4,v4),(5,v5),(6,.ptr I 0),(35,v35),(36,v36)]→Sat h' (pt I (.cells 512 (qV t') false)::S)→Q (.exit 2) E' h') →
  WP ⟨Tryz.prog,told⟩ 68 (.loop gdI) E h Q:=by
 intro m
 induction m with
 | zero =>
  intro q t h E Q hq ht s hE U hx
  refine WP.loop (WP.has hE (zK 6 rfl (zb rfl (by exact bU (aY (by omega) (by omega))) ?_)))
  refine zh rfl (ah rfl rfl bB) (by simp; omega) ?_
  exact zk 2 rfl (WP.exit (hx t _ _ rfl ⟨rfl,rfl,rfl,rfl,rfl,rfl,aa⟩ s))
 | succ m ih =>
  intro q t h E Q hq ht s hE U hx
  have J:q<t.length:=by omega
  refine WP.loop (WP.has hE (zK 6 rfl (zb rfl (by exact bU (aY (by omega) (by omega))) ?_)))
  refine zt rfl (ah rfl rfl bB) (by simp; omega) ?_
  refine zk 4 rfl (WP.block (zK 4 rfl (zo rfl (ej (r:=.ptr I q) rfl rfl (by rw [SA,show (decide ((0:Int)≤(q:Int))&&decide ((q:Int)<((512:Nat):Int)))=true by simp; omega,ag]; simp)) ?_)))
  cases hm:t.getD q false with
  | true =>
   refine zt rfl (aW rfl (s.ld (k:=0) rfl ke (Bb J))) (hm) (zk 6 rfl (WP.ret ?_))
   refine U ?_ _ _ rfl s.drop
   rw [markL,aj hm]
  | false =>
   refine zh rfl (aW rfl (s.ld (k:=0) rfl ke (Bb J))) (hm) (zk 5 rfl (zo rfl (ej (r:=.ptr I q) rfl rfl (by rw [SA,show (decide ((0:Int)≤(q:Int))&&decide ((q:Int)<((512:Nat):Int)))=true by simp; omega,ag]; simp)) ?_))
   refine zS rfl (s.ee (k:=0) rfl yq (by simp [qV,ht]) (by omega) rfl rfl) ?_
   intro h s
   dsimp only [setA] at s
   rw [Kt] at s
   refine zv (zr rfl (zm rfl (zb rfl (by exact bU (aY (by omega) (by omega))) ?_)))
   refine za rfl (zv ?_)
   have e:markL (m+1) q t=markL m (q+1) (t.set q true):=by rw [markL,af (by rw [hm]; decide)]
   rw [e] at U hx
   exact ih (q+1) (t.set q true) h _ Q (by omega) (by simp [ht]) s ⟨rfl,rfl,rfl,rfl,rfl,rfl,rfl,rfl,rfl,aa⟩ U hx
theorem L7 (hT:W told){p6 p3:Nat}{n low:Nat}{x:V}(hX:cU X (cY x l))(hl:l.length=512)(bV:∀b∈l,b<256)(Zs:x.cells=[x])(hx2:storable x=true)(hn:n=ku l)(uM:26+4*n≤low)(YB:low≤512): ∀(m i:Nat) (t:List Bool) (h:H) (E:List (Nat×V)) (Q:Ex→List (Nat×V)→H→Prop),i+m=n→t.length=512 →
  Sat h (pt p6 (.cells 512 (qV t) false)::pt p3 (.cells 1 [x] false)::X::S)→Has E [(3,.ptr p3 0),(4,.int .i64 (n:Int)),(5,.int .i64 (low:Int)),(6,.ptr p6 0),(35,.int .i64 (n:Int)),(36,.int .i64 (i:Int))] →
  (cellsL l low m i t=false→∀E' h',look E' 2=some (.bool false)→Sat h' (X::S)→Q .ret E' h') →
  (cellsL l low m i t=true→∀E' h',Sat h' (X::S)→Q (.exit 0) E' h') →
  WP ⟨Tryz.prog,told⟩ 68 (.loop gdO) E h Q:=by
 intro m
 induction m with
 | zero =>
  intro i t h E Q hi ht s hE J hx
  refine WP.loop (WP.has hE (zg rfl (zh rfl (ah rfl rfl bB) (by simp; omega) ?_)))
  exact zk 3 rfl (WP.exit (hx rfl _ _ s.drop.drop))
 | succ m ih =>
  intro i t h E Q hi ht s hE J hx
  have hf:=qE (l:=l) (a:=26+4*i) (z:=2) bV
  have hz:=qE (l:=l) (a:=26+4*i+2) (z:=2) bV
  have ef:jC l i=dY l (26+4*i) 2:=rfl
  have ez:mg l i=dY l (26+4*i+2) 2:=rfl
  refine WP.loop (WP.has hE (zg rfl (zt rfl (ah rfl rfl bB) (by simp; omega) ?_)))
  refine zk 5 rfl (WP.block (zK 7 rfl (zl rfl (s.fM (k:=1) rfl gO ei) (zm rfl (zc rfl (T5 (i:=i) hT s (k:=2) rfl hX hl (by omega)) ?_)))))
  rintro r h' ⟨rfl,s⟩
  refine zk 11 rfl ?_
  refine zd rfl (ah rfl rfl bB) ?_ ?_
  ·intro U
   have U:jC l i<low:=by simp at U; omega
   refine zk 12 rfl (WP.ret ?_)
   refine J ?_ _ _ rfl s.drop.drop
   rw [cellsL,aj (.inl U)]
  ·intro U
   have U:low≤jC l i:=by simp at U; omega
   refine zk 3 rfl (zb rfl (by exact bU (aY (by omega) (by omega))) ?_)
   refine zd rfl (ah rfl rfl ep) ?_ ?_
   ·intro I
    have I:512<jC l i+mg l i:=by simp at I; omega
    refine zk 7 rfl (WP.ret ?_)
    refine J ?_ _ _ rfl s.drop.drop
    rw [cellsL,aj (.inr I)]
   ·intro I
    have I:jC l i+mg l i≤512:=by simp at I; omega
    refine zk 9 rfl (WP.block ?_)
    have e:cellsL l low (m+1) i t=(match markL (mg l i) (jC l i) t with | none=>false | some t'=>cellsL l low m (i+1) t'):=by rw [cellsL,af (by omega)]
    rw [e] at J hx
    refine L6 I (mg l i) (jC l i) t _ _ _ rfl ht s ⟨rfl,rfl,rfl,rfl,rfl,rfl,rfl,rfl,rfl,aa⟩ (fun hm E' h' h2 s' => ?_) (fun t' E' h' hm iH s' => ?_)
    ·rw [hm] at J
     exact J rfl _ _ h2 s'.drop
    ·rw [hm] at J hx
     refine WP.has iH (zr rfl (zb rfl (by exact bU (aY (by omega) (by omega))) ?_))
     refine zm rfl (zv ?_)
     exact ih (i+1) t' h' _ Q (by omega) (by rw [Fz _ _ _ _ hm,ht]) s' ⟨rfl,rfl,rfl,rfl,rfl,rfl,aa⟩ J hx
theorem Ku (hT:W told)(s:Sat h (X::S))(hX:cU X (cY v l))(kx:l.length<9223372036854775808):
  Call ⟨Tryz.prog,told⟩ 43 [v] h fun r h'=>r=.bool (bT l)∧Sat h' (X::S):=by
 have hv:=s.aL (k:=0) rfl hX
 refine Call.of_wp (hT.free _ rfl) Tryz.func43 rfl rfl (zK 8 rfl (zo rfl (bf rfl rfl rfl (bj aS (s.aL (k:=0) rfl hX))) ?_))
 refine zd rfl (ah rfl rfl aV) ?_ ?_
 ·intro hq
  have hq:l.length≠512:=by simp at hq; omega
  exact zk 12 rfl (WP.ret ⟨aa,_,rfl,by rw [bT,ew hq,fh],s⟩)
 ·intro hq
  have hq:l.length=512:=by simp at hq; omega
  have hb:l[13]?=some (l[13]'(by omega)):=bg _
  generalize Cz:(l[13]'(by omega))=b at hb
  have nq:l.getD 13 0=b:=by rw [kD,hb]; rfl
  obtain ⟨id,off,e1,e2⟩:=iq hv hb
  refine zk 2 rfl (zo rfl (ej (r:=.ptr id off) rfl rfl e1) (zl rfl e2 ?_))
  refine zd rfl (ah rfl rfl aV) ?_ ?_
  ·intro I
   have I:b≠0:=by simp at I; omega
   exact zk 7 rfl (WP.ret ⟨aa,_,rfl,by rw [bT,dQ hq,nq,ew I,fh,mu],s⟩)
  ·intro I
   have I:b=0:=by simp at I; omega
   obtain ⟨pi,po,pc,rfl⟩:=kN hv (by omega)
   refine zk 7 rfl (zo rfl (c8 rfl (by rw [C2]; rfl)) ?_)
   refine aB.cT s rfl rfl rfl (cI oV) (fun p3 h s => ?_)
   refine zS rfl (s.ia (j:=0) rfl ei rfl rfl) (fun h s => ?_)
   refine zk 2 rfl ?_
   have s0:=s
   refine WP.drawn [none,none,some (0,2),ai,ai,ai] rfl (by kernel_rfl) (by kernel_rfl) ?_
   refine zL rfl (s.fM (k:=0) rfl gO ei) (aA.any rfl rfl rfl rfl (OpR.call rfl rfl rfl rfl (QD hT s (k:=1) rfl hX hq)) ?_)
   rintro r h' ⟨rfl,s⟩
   have s1:=s
   refine zL rfl (s.fM (k:=0) rfl gO ei) (aA.any rfl rfl rfl rfl (OpR.call rfl rfl rfl rfl (Wl hT s (k:=1) rfl hX hq)) ?_)
   rintro r h' ⟨rfl,s⟩
   refine zA rfl (zA rfl ?_)
   refine aA.nil ⟨⟨aa,aa,dX (.inr ⟨rfl,⟨_,aW rfl (s0.fM (k:=0) rfl gO ei)⟩,aX _ rfl⟩) (.inr ⟨rfl,⟨_,aW rfl (s1.fM (k:=0) rfl gO ei)⟩,aX _ rfl⟩),aa,aa,aa,aa⟩,?_⟩
   have yj:=qE (l:=l) (a:=14) (z:=2) hv.1
   have sQ:=qE (l:=l) (a:=16) (z:=2) hv.1
   have ec:ku l=dY l 14 2:=rfl
   have el:iK l=dY l 16 2:=rfl
   refine zK 4 rfl (zb rfl (by exact BX (aY (by omega) (by omega))) ?_)
   refine zb rfl (by exact bU (aY (by omega) (by omega))) ?_
   refine zm rfl ?_
   refine zd rfl (ah rfl rfl ep) ?_ ?_
   ·intro J
    have J:iK l<26+4*ku l:=by simp at J; omega
    exact zk 10 rfl (WP.ret ⟨aa,_,rfl,by rw [bT,dQ hq,nq,dQ I,ew (by omega:¬(26+4*ku l≤iK l∧iK l≤512))]; rfl,s.drop⟩)
   ·intro J
    have J:26+4*ku l≤iK l:=by simp at J; omega
    refine zk 2 rfl ?_
    refine zd rfl (ah rfl rfl ep) ?_ ?_
    ·intro U
     have U:512<iK l:=by simp at U; omega
     exact zk 7 rfl (WP.ret ⟨aa,_,rfl,by rw [bT,dQ hq,nq,dQ I,ew (by omega:¬(26+4*ku l≤iK l∧iK l≤512))]; rfl,s.drop⟩)
    ·intro U
     have U:iK l≤512:=by simp at U; omega
     refine zk 6 rfl (aB.cT s rfl rfl rfl (cI QE) ?_)
     intro p6 h s
     have uq:(qV (List.replicate 512 false)).length=512:=by rw [qV,eu,fE]
     dsimp only [V.cells] at s
     rw [uq] at s
     refine zk 7 rfl (WP.block ?_)
     have hg:bT l=cellsL l (iK l) (ku l) 0 (List.replicate 512 false):=by
      rw [bT,dQ hq,nq,dQ I,dQ (⟨J,U⟩:26+4*ku l≤iK l∧iK l≤512)]; rfl
     refine L7 hT hX hq hv.1 rfl rfl rfl J U (ku l) 0 (List.replicate 512 false) _ _ _ (by omega) fE s ⟨rfl,rfl,rfl,rfl,rfl,rfl,aa⟩ (fun hc E' h' h2 s' => ?_) (fun hc E' h' s' => ?_)
     ·rw [hg,hc]
      exact ⟨aa,_,qy h2,rfl,s'⟩
     ·rw [hg,hc]
      exact WP.has (F:=[]) aa (zK 4 rfl (WP.ret ⟨aa,_,rfl,rfl,s'⟩))
end
end Go.Proofs.YtconhghphklfjaaGreat.Am
