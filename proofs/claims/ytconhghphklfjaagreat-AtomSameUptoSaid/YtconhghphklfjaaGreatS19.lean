/- AtomSame: a part of its proof; conditions: its statement's. -/
import Derived.Test.YtconhghphklfjaaGreatS18
set_option linter.defProp false
namespace Go.Proofs.YtconhghphklfjaaGreat.Am
open Go
def yK:=@Tryz.underlying120
section
variable {told:dF} {h:H} {S:List ax} {X:ax} {p:Nat} {δ:Dk}
def Dk.wr (δ:Dk)(n:Int)(b:List Nat): Dk:={ δ.c_ with waiting:=δ.waiting++[(n.toNat,b)],now:=cK n b δ.now }
theorem S3 : ∃i,Tryz.prog.info? 125=some i∧i.size=2∧i.bytes=32 :=
 ⟨_,(show Tryz.prog.info? 125=some ((Tryz.prog.info? 125).getD default) by kernel_rfl),by kernel_rfl,by kernel_rfl⟩
theorem Sat.Vm {cs:List V}{m:List Wr}{u:V}{x:Wr}(s:Sat h (.ct u x.2::ug cs m::S))(hu:u≠.bA): Sat h (ug (cs++[.int .i64 (x.1:Int),u]) (m++[x])::S) :=
 s.two (aE.ct _ _) (aE.wr _ _) fun _ _ I J=>S1 J hu I
theorem Np (hT:W told){n:Int}{x:V}{b:List Nat}(s:Sat h (aC p δ::X::S))(hX:cR X (cV x b))(hb:b.length<1073741824)(hf:δ.aI<4294967296)(hw:δ.waiting.length≤268435456):
  Call ⟨Tryz.prog,told⟩ 108 [.ptr p 0,.int .i64 n,x] h fun v h' =>
  (δ.dead=true∧v=.int .i64 9∧Sat h' (aC p δ::X::S)) ∨
  (δ.dead=false∧¬(0≤n∧n<δ.aq.length∧b.length=512)∧v=.int .i64 1∧Sat h' (aC p δ::X::S)) ∨
  (δ.dead=false∧0≤n∧n<δ.aq.length∧b.length=512∧δ.aI=0∧v=.int .i64 9∧Sat h' (aC p { δ.die with eH:=some (n.toNat,b) }::X::S)) ∨
  (δ.dead=false∧0≤n∧n<δ.aq.length∧b.length=512∧δ.aI≠0∧v=.int .i64 0∧Sat h' (aC p (δ.wr n b)::X::S)):=by
 have J:=s
 obtain ⟨pg,wt,nw,lg,mk,tn,tl,ops,s⟩:=br.1 s
 refine Call.of_wp (hT.free _ rfl) Tryz.func108 rfl rfl (zK 5 rfl (WP.block (zK 4 rfl (zf rfl (je _ _) ?_))))
 refine zd rfl (aV rfl (s.ld (k:=0) rfl jV rfl)) ?_ ?_
 ·intro U
  exact zk 7 rfl (WP.ret ⟨aa,_,rfl,.inl ⟨U,rfl,J⟩⟩)
 ·intro U
  refine zk 7 rfl (zc rfl (No hT J) ?_)
  rintro v h' ⟨rfl,(⟨GV,Yk,rfl⟩ | ⟨hn,rfl⟩)⟩
  ·skip
   refine zo rfl (dA rfl rfl) (zk 2 rfl (zo rfl (a_ rfl rfl rfl (bh aS (s.aG (k:=8) rfl hX))) ?_))
   refine zd rfl (ag rfl rfl aX) ?_ ?_
   ·intro I
    have I:b.length≠512:=by simp at I; omega
    exact zk 8 rfl (WP.ret ⟨aa,_,rfl,.inr (.inl ⟨U,fun q=>I q.2.2,rfl,J⟩)⟩)
   ·intro I
    have I:b.length=512:=by simp at I; omega
    refine zk 2 rfl (zv (zj rfl (WP.skip (zg rfl (zk 2 rfl (zc rfl (gC hT (J.ae [1]) hX hb) ?_))))))
    intro u h s
    obtain ⟨xP,_,cap,_,rfl,_⟩:=s.ku (by omega)
    have s:=s.fF
    have Yl:((n.toNat:Nat):Int)=n:=by omega
    refine zo rfl (cX rfl (by rw [WO]; rfl)) ?_
    refine aB.cO s rfl rfl rfl (cH FK) (fun p7 h s => ?_)
    refine zS rfl (s.gX (j:=0) rfl Ci rfl rfl) (fun h s => ?_)
    refine zk 5 rfl (zc rfl (mA hT (s.ae [3]) hf) ?_)
    rintro v h (⟨h0,rfl,s⟩ | ⟨h0,rfl,s⟩)
    ·skip
     obtain ⟨pg,wt,nw,lg,mk,tn,tl,ops,s⟩:=br.1 s
     refine zo rfl (dA rfl rfl) (zk 6 rfl (zf rfl (ua _ _) ?_))
     refine zS rfl (by exact s.dZ (k:=0) rfl WM rfl (by decide) rfl rfl) (fun h s => ?_)
     dsimp only [uN,V.cells,List.length_cons,List.length_nil,Nat.reduceAdd,aU,bringA,List.take,List.drop,List.cons_append,List.nil_append,setA,List.set] at s
     refine zk 5 rfl (WP.ret ⟨aa,_,rfl,?_⟩)
     have s1:=s.ae [8,8,8]
     have s2:Sat h (Ax _ (some (n.toNat,b))::_):=gW.2 ⟨_,gW.2 ⟨_,dY.2 (eE.2 ⟨rfl,by rw [Yl]; exact s1⟩)⟩⟩
     have s3:=(s2.del 8).ae [2,2,2,2,2,2,0,1,0]
     exact .inr (.inr (.inl ⟨U,GV,Yk,I,h0,rfl,br.2 ⟨_,_,_,_,_,_,_,_,s3⟩⟩))
    ·skip
     obtain ⟨pg,wt,nw,lg,mk,tn,tl,ops,s⟩:=br.1 s
     dsimp only [Dk.c_] at s
     obtain ⟨cs,sw⟩:=mz.1 (s.ae [2])
     have s:=sw.ae [2,8,0,0]
     dsimp only [uN,V.cells,List.length_cons,List.length_nil,Nat.reduceAdd,aU,bringA,List.take,List.drop,List.cons_append,List.nil_append,setA,getA] at s
     have J:=s
     have Ym:=(s.kF (j:=2) rfl).2.2
     refine zo rfl (dA rfl rfl) (zk 4 rfl (WP.drawn [some (0,3),some (0,2),some (0,2),some (0,2),some (0,2),ai,ai,ai,ai,ai,ai] rfl (by kernel_rfl) (by kernel_rfl) ?_))
     refine zM rfl (zM rfl (zN rfl (zF rfl (tA _ _) (zL rfl (s.ld (k:=0) rfl Ch rfl) (zL rfl (s.fE (k:=1) rfl RE Ci) ?_)))))
     obtain ⟨i1,lp,jL,sn⟩:=S3
     obtain ⟨sv,h1,e1,s1⟩:=nN (P:=Tryz.prog) (x:=.agg [.int .i64 n,.sl xP 0 b.length cap]) s yK FK Ci rfl (by decide) (by decide) rfl rfl
     dsimp only [V.cells] at s1
     refine aA.any rfl rfl rfl rfl (OpR.of (R:=fun v h'=>v=sv∧h'=h1) (p_ rfl e1) ⟨rfl,rfl⟩) ?_
     rintro v h' ⟨rfl,rfl⟩
     have lK:cs.length=δ.waiting.length*2:=by
      obtain ⟨a,b,q1,q2,q3⟩:=s.at (k:=3) rfl
      exact Av q3
     obtain ⟨wt',h2,e2,s2⟩:=jo (s1.ae [3,0]) yK lp FK jL (by omega) rfl (by decide) (by simp only [V.cells,bj,bY]; omega)
     dsimp only [aU,bringA] at s2
     refine aA.any rfl rfl rfl rfl (OpR.of (R:=fun v h'=>v=wt'∧h'=h2) (oB rfl rfl e2) ⟨rfl,rfl⟩) ?_
     rintro v h' ⟨rfl,rfl⟩
     have hv:=s2.kF (j:=0) rfl
     refine zN rfl (zF rfl (tA _ _) (aA.gV rfl rfl rfl (OpR.eU rfl rfl rfl (s2.dZ (k:=2) rfl RD rfl (by decide) hv.1 hv.2.1)) ?_))
     rintro v h ⟨rfl,s⟩
     dsimp only [Nat.reduceAdd,List.set,setA] at s
     refine aA.nil ⟨⟨fun _ _=>.inr ⟨rfl,⟨_,bk rfl⟩,aW _ rfl⟩,fun _ _=>.inr ⟨rfl,⟨_,bk rfl⟩,aW _ rfl⟩,fun _ _=>.inr ⟨rfl,⟨_,jZ rfl⟩,aW _ rfl⟩,fun _ _=>.inr ⟨rfl,⟨_,jv rfl (tA _ _)⟩,aW _ rfl⟩,dP (.inr ⟨rfl,⟨_,aV rfl (J.ld (k:=0) rfl Ch rfl)⟩,Ym⟩) (.inr ⟨rfl,⟨_,aV rfl (s1.ld (k:=1) rfl Ch rfl)⟩,Ym⟩),aa,aa,aa,aa,aa,aa,aa⟩,?_⟩
     refine zw (WP.drawn [ai,ai,ai,ai,ai,ai,ai,ai] rfl (by kernel_rfl) (by kernel_rfl) ?_)
     refine zM rfl (zN rfl (zF rfl (Ao _ _) (zL rfl (s.ld (k:=2) rfl l_ rfl) (zM rfl (zF rfl (DR _ _) (zL rfl (s.ld (k:=3) rfl bL rfl) (aA.gV rfl rfl rfl (OpR.mapUpdate rfl rfl rfl rfl (oI (f:=fun v b=>ax.ct v b) (x:=b) (fun _ _=>aE.ct _ _) (((s.ae [11]).dup (aE.ct _ _)).ae [0,7]) kZ bE)) ?_)))))))
     intro v h s
     dsimp only [aU,bringA] at s
     refine aA.nil ⟨⟨aa,aa,aa,aa,aa,aa,aa,aa,aa⟩,?_⟩
     refine zK 4 rfl (WP.ret ⟨aa,_,rfl,?_⟩)
     have s1:=(s.ae [1,5]).Vm (x:=(n.toNat,b)) (by simp)
     rw [Yl] at s1
     have s2:=((mz.2 ⟨_,s1.ae [2,0]⟩).del 4).del 2
     exact .inr (.inr (.inr ⟨U,GV,Yk,I,h0,rfl,br.2 ⟨_,_,_,_,_,_,_,_,s2.ae [2,2,0,0,0,0,0,0,0]⟩⟩))
  ·skip
   exact zo rfl (dA rfl rfl) (zk 12 rfl (WP.ret ⟨aa,_,rfl,.inr (.inl ⟨U,fun q=>hn ⟨q.1,q.2.1⟩,rfl,J⟩)⟩))
theorem S4 (J:W told)(s:Sat h (aC p δ::S))(U:δ.log.length<1073741824): Call ⟨Tryz.prog,told⟩ 103 [.ptr p 0] h fun v h' =>
  (δ.dead=true∧v=.bD [.bA,.int .i64 9]∧Sat h' (aC p δ::S))∨(δ.dead=false∧∃b,v=.bD [b,.int .i64 0]∧Sat h' (bG b δ.log::aC p δ::S)):=by
 have s0:=s
 obtain ⟨pg,wt,nw,lg,mk,tn,tl,ops,s⟩:=br.1 s
 refine Call.of_wp (J.free _ rfl) Tryz.func103 rfl rfl (zK 10 rfl (zf rfl (je _ _) ?_))
 refine zd rfl (aV rfl (s.ld (k:=0) rfl jV rfl)) ?_ ?_
 ·intro I
  exact zk 7 rfl (WP.ret ⟨aa,_,rfl,.inl ⟨I,rfl,s0⟩⟩)
 ·intro I
  refine zk 7 rfl (zf rfl (jd _ _) (zl rfl (s.ld (k:=0) rfl bL rfl) (zc rfl (gC J (s.ae [4]) (bI _ _) U) ?_)))
  intro v h s
  exact zk 3 rfl (WP.ret ⟨aa,_,rfl,.inr ⟨I,v,rfl,(br.2 ⟨pg,wt,nw,lg,mk,tn,tl,ops,s.ae [2,2,2,2,1,1,1,1,0]⟩).ae [1]⟩⟩)
theorem Cv (J:W told)(s:Sat h (aC p δ::S))(hl:δ.mark.length≤64): Call ⟨Tryz.prog,told⟩ 102 [.ptr p 0] h fun v h' =>
  (δ.dead=true∧v=.bD [.bA,.int .i64 9]∧Sat h' (aC p δ::S))∨(δ.dead=false∧∃b,v=.bD [b,.int .i64 0]∧Sat h' (bG b δ.mark::aC p δ::S)):=by
 have U:=s
 obtain ⟨pg,wt,nw,lg,mk,tn,tl,ops,s⟩:=br.1 s
 refine Call.of_wp (J.free _ rfl) Tryz.func102 rfl rfl (zK 10 rfl (zf rfl (je _ _) ?_))
 refine zd rfl (aV rfl (s.ld (k:=0) rfl jV rfl)) ?_ ?_
 ·intro I
  exact zk 7 rfl (WP.ret ⟨aa,_,rfl,.inl ⟨I,rfl,U⟩⟩)
 ·intro I
  refine zk 7 rfl (zf rfl (vO _ _) (zl rfl (s.ld (k:=0) rfl bL rfl) (zc rfl (gC J (s.ae [5]) (cL _ _) (by omega)) ?_)))
  intro v h s
  exact zk 3 rfl (WP.ret ⟨aa,_,rfl,.inr ⟨I,v,rfl,(br.2 ⟨pg,wt,nw,lg,mk,tn,tl,ops,s.ae [2,2,2,2,2,1,1,1,0]⟩).ae [1]⟩⟩)
theorem PL (U:W told){x:V}{b:List Nat}(s:Sat h (aC p δ::X::S))(hX:cR X (cV x b))(hf:δ.aI<4294967296):
  Call ⟨Tryz.prog,told⟩ 110 [.ptr p 0,x] h fun v h' =>
  (δ.dead=true∧v=.int .i64 9∧Sat h' (aC p δ::X::S))∨(δ.dead=false∧64<b.length∧v=.int .i64 1∧Sat h' (aC p δ::X::S)) ∨
  (δ.dead=false∧b.length≤64∧δ.aI=0∧v=.int .i64 9∧Sat h' (aC p δ.die::X::S)) ∨
  (δ.dead=false∧b.length≤64∧δ.aI≠0∧v=.int .i64 0∧Sat h' (aC p { δ.c_ with mark:=b }::X::S)):=by
 have s0:=s
 obtain ⟨pg,wt,nw,lg,mk,tn,tl,ops,s⟩:=br.1 s
 refine Call.of_wp (U.free _ rfl) Tryz.func110 rfl rfl (zK 5 rfl (WP.block (zK 4 rfl (zf rfl (je _ _) ?_))))
 refine zd rfl (aV rfl (s.ld (k:=0) rfl jV rfl)) ?_ ?_
 ·intro J
  exact zk 7 rfl (WP.ret ⟨aa,_,rfl,.inl ⟨J,rfl,s0⟩⟩)
 ·intro J
  refine zk 6 rfl (zo rfl (a_ rfl rfl rfl (bh aS (s.aG (k:=8) rfl hX))) ?_)
  refine zd rfl (ag rfl rfl dR) ?_ ?_
  ·intro I
   have I:64<b.length:=by simp at I; omega
   exact zk 7 rfl (WP.ret ⟨aa,_,rfl,.inr (.inl ⟨J,I,rfl,s0⟩)⟩)
  ·intro I
   have I:b.length≤64:=by simp at I; omega
   refine zk 6 rfl (zc rfl (mA U s0 hf) ?_)
   rintro v h (⟨h0,rfl,s⟩ | ⟨h0,rfl,s⟩)
   ·skip
    exact zo rfl (dA rfl rfl) (zk 7 rfl (WP.ret ⟨aa,_,rfl,.inr (.inr (.inl ⟨J,I,h0,rfl,s⟩))⟩))
   ·skip
    refine zo rfl (dA rfl rfl) (za rfl (zv (zj rfl (WP.skip (zg rfl (zk 2 rfl (zc rfl (gC U (s.ae [1]) hX (by omega)) ?_)))))))
    intro v h s
    have s:=(s.fF).ae [2,0,0]
    obtain ⟨pg,wt,nw,lg,mk,tn,tl,ops,s⟩:=br.1 s
    dsimp only [Dk.c_] at s
    have hv:=(s.aG (k:=8) rfl (cL _ _)).cells
    refine zn rfl (zf rfl (vO _ _) (zS rfl (s.dZ (k:=0) rfl jy rfl (by decide) hv.1 hv.2) ?_))
    intro h s
    exact zk 5 rfl (WP.ret ⟨aa,_,rfl,.inr (.inr (.inr ⟨J,I,h0,rfl,br.2 ⟨pg,wt,nw,lg,v,tn,tl,ops,(s.del 5).ae [0,0,0,0,0,2,0,0,0]⟩⟩))⟩)
theorem PN (hT:W told){n:Int}(s:Sat h (aC p δ::S))(hf:δ.aI<4294967296)(hl:δ.log.length<1073741824):
  Call ⟨Tryz.prog,told⟩ 104 [.ptr p 0,.int .i64 n] h fun v h' =>
  (δ.dead=true∧v=.int .i64 9∧Sat h' (aC p δ::S))∨(δ.dead=false∧¬(0≤n∧n≤δ.log.length)∧v=.int .i64 1∧Sat h' (aC p δ::S)) ∨
  (δ.dead=false∧0≤n∧n≤δ.log.length∧δ.aI=0∧v=.int .i64 9∧Sat h' (aC p δ.die::S)) ∨
  (δ.dead=false∧0≤n∧n≤δ.log.length∧δ.aI≠0∧v=.int .i64 0∧Sat h' (aC p { δ.c_ with log:=δ.log.take n.toNat,aR:=n.toNat }::S)):=by
 have s0:=s
 obtain ⟨pg,wt,nw,lg,mk,tn,tl,ops,s⟩:=br.1 s
 refine Call.of_wp (hT.free _ rfl) Tryz.func104 rfl rfl (zK 5 rfl (WP.block (zK 4 rfl (zf rfl (je _ _) ?_))))
 refine zd rfl (aV rfl (s.ld (k:=0) rfl jV rfl)) ?_ ?_
 ·intro U
  exact zk 7 rfl (WP.ret ⟨aa,_,rfl,.inl ⟨U,rfl,s0⟩⟩)
 ·intro U
  refine zk 6 rfl ?_
  refine zd rfl (ag rfl rfl bx) ?_ ?_
  ·intro J
   have J:n<0:=by simpa using J
   exact zk 16 rfl (WP.ret ⟨aa,_,rfl,.inr (.inl ⟨U,fun q=>by omega,rfl,s0⟩)⟩)
  ·intro J
   have J:0≤n:=by simpa using J
   refine zk 4 rfl (zf rfl (jd _ _) (zl rfl (s.ld (k:=0) rfl bL rfl) (zo rfl (a_ rfl rfl rfl (bh aS (s.aG (k:=4) rfl (bI _ _)))) ?_)))
   refine zd rfl (ag rfl rfl dR) ?_ ?_
   ·intro I
    have I:(δ.log.length:Int)<n:=by simpa using I
    exact zk 8 rfl (WP.ret ⟨aa,_,rfl,.inr (.inl ⟨U,fun q=>by omega,rfl,s0⟩)⟩)
   ·intro I
    have I:n≤δ.log.length:=by simpa using I
    refine zk 7 rfl (zc rfl (mA hT s0 hf) ?_)
    rintro v h (⟨h0,rfl,s⟩ | ⟨h0,rfl,s⟩)
    ·skip
     exact zo rfl (dA rfl rfl) (zk 7 rfl (WP.ret ⟨aa,_,rfl,.inr (.inr (.inl ⟨U,J,I,h0,rfl,s⟩))⟩))
    ·skip
     obtain ⟨pg,wt,nw,lg,mk,tn,tl,ops,s⟩:=br.1 s
     dsimp only [Dk.c_] at s
     obtain ⟨k,rfl⟩:∃k:Nat,n=k:=⟨n.toNat,by omega⟩
     refine zo rfl (dA rfl rfl) (za rfl (zv (zj rfl (WP.skip (zg rfl (zk 3 rfl (zf rfl (jd _ _) (zl rfl (by exact s.ld (k:=0) rfl bL rfl) ?_))))))))
     refine zm rfl (zo rfl (cC (p:=none) (q:=some (.int .i64 (k:Int))) (m:=none) (p':=none) (q':=some k) (m':=none) rfl rfl rfl rfl rfl (by simp [gQ,bndV]) rfl (ia (s.buf (k:=4) rfl).view (b:=k) (by omega)).1) ?_)
     refine zc rfl (gC hT (s.ae [4]) (wN (bI _ _) (b:=k) (by omega)) (by simp; omega)) ?_
     intro v h s
     have hv:=(s.buf (k:=0) rfl).view.cells
     refine zn rfl (zf rfl (jd _ _) (zS rfl (s.dZ (k:=2) rfl jy rfl (by decide) hv.1 hv.2) ?_))
     intro h s
     refine zk 6 rfl (zf rfl (nM _ _) ?_)
     refine zS rfl (by exact s.dZ (k:=2) rfl jK rfl (by decide) rfl rfl) (fun h s => ?_)
     refine zk 5 rfl (WP.ret ⟨aa,_,rfl,?_⟩)
     have s:=(s.del 1).ae [1,1,1,1,0,0,0,0]
     exact .inr (.inr (.inr ⟨U,J,I,h0,rfl,br.2 ⟨pg,wt,nw,v,mk,tn,tl,ops,s⟩⟩))
theorem S5 (hT:W told){n:Int}{x:V}{b:List Nat}(s:Sat h (aC p δ::X::S))(hX:cR X (cV x b))(hf:δ.aI<4294967296)(hl:δ.log.length<1073741824)(hc:δ.aR≤δ.log.length):
  Call ⟨Tryz.prog,told⟩ 112 [.ptr p 0,.int .i64 n,x] h fun v h' =>
  (δ.dead=true∧v=.int .i64 9∧Sat h' (aC p δ::X::S))∨(δ.dead=false∧¬(0≤n∧n≤δ.aR∧b.length≤64)∧v=.int .i64 1∧Sat h' (aC p δ::X::S)) ∨
  (δ.dead=false∧0≤n∧n≤δ.aR∧b.length≤64∧δ.aI=0∧v=.int .i64 9∧Sat h' (aC p δ.die::X::S)) ∨
  (δ.dead=false∧0≤n∧n≤δ.aR∧b.length≤64∧δ.aI≠0∧v=.int .i64 0∧Sat h' (aC p { δ.c_ with log:=δ.log.drop n.toNat,aR:=δ.aR-n.toNat,mark:=b }::X::S)):=by
 have s0:=s
 obtain ⟨pg,wt,nw,lg,mk,tn,tl,ops,s⟩:=br.1 s
 refine Call.of_wp (hT.free _ rfl) Tryz.func112 rfl rfl (zK 5 rfl (WP.block (zK 4 rfl (zf rfl (je _ _) ?_))))
 refine zd rfl (aV rfl (s.ld (k:=0) rfl jV rfl)) ?_ ?_
 ·intro U
  exact zk 7 rfl (WP.ret ⟨aa,_,rfl,.inl ⟨U,rfl,s0⟩⟩)
 ·intro U
  refine zk 6 rfl ?_
  refine zd rfl (ag rfl rfl bx) ?_ ?_
  ·intro hq
   have hq:n<0:=by simpa using hq
   exact zk 20 rfl (WP.ret ⟨aa,_,rfl,.inr (.inl ⟨U,fun q=>by omega,rfl,s0⟩)⟩)
  ·intro hq
   have hq:0≤n:=by simpa using hq
   refine zk 4 rfl (zf rfl (nM _ _) (zl rfl (s.ld (k:=0) rfl c7 rfl) ?_))
   refine zd rfl (ag rfl rfl dR) ?_ ?_
   ·intro I
    have I:(δ.aR:Int)<n:=by simpa using I
    exact zk 13 rfl (WP.ret ⟨aa,_,rfl,.inr (.inl ⟨U,fun q=>by omega,rfl,s0⟩)⟩)
   ·intro I
    have I:n≤δ.aR:=by simpa using I
    refine zk 3 rfl (zo rfl (a_ rfl rfl rfl (bh aS (s.aG (k:=8) rfl hX))) ?_)
    refine zd rfl (ag rfl rfl dR) ?_ ?_
    ·intro J
     have J:64<b.length:=by simp at J; omega
     exact zk 8 rfl (WP.ret ⟨aa,_,rfl,.inr (.inl ⟨U,fun q=>by omega,rfl,s0⟩)⟩)
    ·intro J
     have J:b.length≤64:=by simp at J; omega
     refine zk 7 rfl (zc rfl (mA hT s0 hf) ?_)
     rintro v h (⟨h0,rfl,s⟩ | ⟨h0,rfl,s⟩)
     ·skip
      exact zo rfl (dA rfl rfl) (zk 7 rfl (WP.ret ⟨aa,_,rfl,.inr (.inr (.inl ⟨U,hq,I,J,h0,rfl,s⟩))⟩))
     ·skip
      obtain ⟨pg,wt,nw,lg,mk,tn,tl,ops,s⟩:=br.1 s
      dsimp only [Dk.c_] at s
      obtain ⟨k,rfl⟩:∃k:Nat,n=k:=⟨n.toNat,by omega⟩
      refine zo rfl (dA rfl rfl) (za rfl (zv (zj rfl (WP.skip (zg rfl (zk 3 rfl (zf rfl (jd _ _) (zl rfl (by exact s.ld (k:=0) rfl bL rfl) ?_))))))))
      refine zm rfl (zo rfl (cC (p:=some (.int .i64 (k:Int))) (q:=none) (m:=none) (p':=some k) (q':=none) (m':=none) rfl rfl rfl rfl (by simp [gQ,bndV]) rfl rfl (ej (s.buf (k:=4) rfl).view (a:=k) (by omega)).1) ?_)
      refine zc rfl (gC hT (s.ae [4]) (nO (bI _ _) (a:=k) (by omega)) (by simp; omega)) ?_
      intro v h s
      have hv:=(s.buf (k:=0) rfl).view.cells
      refine zn rfl (zf rfl (jd _ _) (zS rfl (s.dZ (k:=2) rfl jy rfl (by decide) hv.1 hv.2) ?_))
      intro h s
      have s:=(s.del 1).ae [1,1,1,1,0,0,0,0]
      refine zk 5 rfl (zf rfl (nM _ _) (zl rfl (s.ld (k:=0) rfl c7 rfl) (zm rfl (zb rfl (by exact lE (aT (by omega) (by omega))) ?_))))
      refine zn rfl (zf rfl (nM _ _) ?_)
      refine zS rfl (by exact s.dZ (k:=0) rfl jK rfl (by decide) rfl rfl) (fun h s => ?_)
      refine zk 5 rfl (zc rfl (gC hT (s.ae [8]) hX (by omega)) ?_)
      intro u h s
      have s:=s.fF
      have hu:=(s.aG (k:=0) rfl (cL _ _)).cells
      refine zn rfl (zf rfl (vO _ _) (zS rfl (s.dZ (k:=2) rfl jy rfl (by decide) hu.1 hu.2) ?_))
      intro h s
      refine zk 5 rfl (WP.ret ⟨aa,_,rfl,?_⟩)
      have s:=(s.del 7).ae [2,2,2,2,2,0,1,1,0]
      dsimp only [uN,aU,bringA,Nat.reduceAdd,List.set,setA,getA] at s
      have e:(δ.aR:Int)-(k:Int)=((δ.aR-k:Nat):Int):=by omega
      rw [e] at s
      exact .inr (.inr (.inr ⟨U,hq,I,J,h0,rfl,br.2 ⟨pg,wt,nw,v,u,tn,tl,ops,s⟩⟩))
def Dk.fresh (aq room:Nat): Dk:={ room:=room,aq:=List.replicate aq none,waiting:=[],now:=[],log:=[],aR:=0,mark:=[],aI := -1,dead:=false,eH:=none,tail:=[] }
theorem S6 : ∃i,Tryz.prog.info? 32=some i∧i.size=1∧i.bytes=24 :=
 ⟨_,(show Tryz.prog.info? 32=some ((Tryz.prog.info? 32).getD default) by kernel_rfl),by kernel_rfl,by kernel_rfl⟩
theorem IS (v:V): ∀n:Nat,repeatL [v] n=List.replicate n v:=by
 intro n
 induction n with
 | zero=>rfl
 | succ n I=>simp only [repeatL,I,sL,fg,cU]
theorem Nq {a b:PM}: ∀n:Nat,(each k_ (List.replicate n .bA) (List.replicate n none)).p a b:=by
 intro n
 induction n with
 | zero=>trivial
 | succ n I=>exact ⟨rfl,I⟩
theorem GW (hT:W told){n m:Nat}(s:Sat h S)(hn:n<1073741824): Call ⟨Tryz.prog,told⟩ 63 [.int .i64 (n:Int),.int .i64 (m:Int)] h fun v h'=>∃p,v=.ptr p 0∧Sat h' (aC p (Dk.fresh n m)::S):=by
 refine Call.of_wp (hT.free _ rfl) Tryz.func63 rfl rfl (zK 8 rfl ?_)
 obtain ⟨i1,I,J,sn⟩:=S6
 obtain ⟨id,h1,e1,s1⟩:=yC (P:=Tryz.prog) s ue I yw J (by omega) rfl (by decide) hn
 refine aB.any rfl rfl rfl (OpR.of (R:=fun v h'=>v=.sl id 0 n (.exact n)∧h'=h1) (pZ rfl rfl e1) ⟨rfl,rfl⟩) ?_
 rintro v h ⟨rfl,rfl⟩
 have s:=s1
 dsimp only [V.cells] at s
 rw [dO,IS] at s
 refine aB.yu s rfl rfl rfl rfl (fun p8 h s => ?_)
 refine zo rfl (cX rfl (by rw [WN]; rfl)) ?_
 refine aB.cO s rfl rfl rfl (gw rfl rfl) (fun p10 h s => ?_)
 refine zk 2 rfl (WP.ret ⟨aa,_,rfl,?_⟩)
 have s:=(ud (f:=fun v b=>ax.ct v b) (s.ae [1]))
 have s:=s.rG.rG.vQ
 have s:Sat _ (Aw .bA []::_):=mz.2 ⟨[],(s.gx (φ:=True) aa).qg⟩
 have s:Sat _ (Ax .cD none::_):=s.gx rfl
 have s:=s.ae [6,6]
 have U:Sat _ (ov (.sl id 0 n (.exact n)) (List.replicate n none)::_):=fV.2 ⟨id,List.replicate n .bA,by rw [ff],by
  rw [ff]
  exact (((s.ae [1]).gx (φ:=True) aa).ga fun a b _=>Nq n).ae [1]⟩
 dsimp only [V.cells,List.take,List.length_cons,List.length_nil,Nat.reduceAdd,List.drop,List.cons_append,List.nil_append,aU,bringA,getA] at U
 exact ⟨_,rfl,br.2 ⟨_,_,_,_,_,_,_,_,U.ae [1,0,1,4,1,1,0,0]⟩⟩
theorem S7 (hT:W told){n m:Int}(s:Sat h S): Call ⟨Tryz.prog,told⟩ 41 [.int .i64 n,.int .i64 m] h fun v h' =>
  (¬(1≤n∧n≤65536∧0≤m∧m≤16777216)∧v=.bD [.cD,.int .i64 1]∧Sat h' S) ∨
  (1≤n∧n≤65536∧0≤m∧m≤16777216∧∃p,v=.bD [.ptr p 0,.int .i64 0]∧Sat h' (aC p (Dk.fresh n.toNat m.toNat)::S)):=by
 refine Call.of_wp (hT.free _ rfl) Tryz.func41 rfl rfl (zK 9 rfl ?_)
 refine zd rfl (ag rfl rfl bx) ?_ ?_
 ·intro hq
  have hq:n<1:=by simpa using hq
  exact zk 19 rfl (WP.ret ⟨aa,_,rfl,.inl ⟨fun q=>by omega,rfl,s⟩⟩)
 ·intro hq
  have hq:1≤n:=by simpa using hq
  refine zk 2 rfl ?_
  refine zd rfl (ag rfl rfl dR) ?_ ?_
  ·intro I
   have I:65536<n:=by simpa using I
   exact zk 16 rfl (WP.ret ⟨aa,_,rfl,.inl ⟨fun q=>by omega,rfl,s⟩⟩)
  ·intro I
   have I:n≤65536:=by simpa using I
   refine zk 3 rfl ?_
   refine zd rfl (ag rfl rfl bx) ?_ ?_
   ·intro J
    have J:m<0:=by simpa using J
    exact zk 12 rfl (WP.ret ⟨aa,_,rfl,.inl ⟨fun q=>by omega,rfl,s⟩⟩)
   ·intro J
    have J:0≤m:=by simpa using J
    refine zk 3 rfl ?_
    refine zd rfl (ag rfl rfl dR) ?_ ?_
    ·intro U
     have U:16777216<m:=by simpa using U
     exact zk 8 rfl (WP.ret ⟨aa,_,rfl,.inl ⟨fun q=>by omega,rfl,s⟩⟩)
    ·intro U
     have U:m≤16777216:=by simpa using U
     refine zk 8 rfl ?_
     obtain ⟨n,rfl⟩:∃k:Nat,n=k:=⟨n.toNat,by omega⟩
     obtain ⟨m,rfl⟩:∃k:Nat,m=k:=⟨m.toNat,by omega⟩
     refine zc rfl (GW hT s (by omega)) ?_
     rintro v h ⟨p,rfl,s⟩
     exact zk 3 rfl (WP.ret ⟨aa,_,rfl,.inr ⟨hq,I,J,U,p,rfl,s⟩⟩)
end
def leN : List Nat→Nat
 | []=>0
 | b::l=>b+256*leN l
theorem PO : ∀(l:List Nat) (b:Nat),leN (l++[b])=leN l+b*256^l.length:=by
 intro l
 induction l with
 | nil=>intro b; simp [leN]
 | cons x l I=>intro b; simp only [fg,leN,I,bj,o_,Nat.mul_add]; rw [←gv,qM (256^l.length) 256,←Nat.mul_assoc b,qM b 256,Nat.mul_assoc 256 b]
theorem yL : ∀(l:List Nat),(∀b∈l,b<256)→leN l<256^l.length:=by
 intro l
 induction l with
 | nil=>intro _; simp [leN]
 | cons x l I =>
  intro h
  have U:=I (fun b J=>h b (bl _ J))
  have h2:=h x bp
  simp only [leN,bj,o_]
  omega
theorem GX (i:Nat): (256:Nat)^i=2^(8*i):=by rw [Nat.pow_mul]
theorem ZL {P:Program}{h:H}{t:TypeId}{x y:Operand}{d i:Nat}(U:d<256)(hi:i≤7): binV P h .shl t x y (.int .u64 (d:Int)) (.int .i64 (8*(i:Int)))=some (.int .u64 ((d*256^i:Nat):Int)):=by
 have J:(256:Nat)^i≤256^7:=oT (by omega) hi
 have I:d*256^i<18446744073709551616:=by
  have:d*256^i≤255*256^7:=sX (by omega) J
  omega
 simp only [binV,shiftV,IntKind.bits]
 have e:(8*(i:Int)).toNat=8*i:=by omega
 rw [e,show min (8*i) 64=8*i by omega,show decide (8*(i:Int)<0)=false by simp; omega,az]
 have:(d:Int)*2^(8*i)=((d*256^i:Nat):Int):=by rw [GX]; push_cast; rfl
 simp only [this,wrap_u64 I]
theorem or8 {P:Program}{h:H}{t:TypeId}{x y:Operand}{a d i:Nat}(I:a<256^i)(hd:d<256)(hi:i≤7): binV P h .or t x y (.int .u64 (a:Int)) (.int .u64 ((d*256^i:Nat):Int))=some (.int .u64 ((a+d*256^i:Nat):Int)):=by
 have J:(256:Nat)^i≤256^7:=oT (by omega) hi
 have hm:d*256^i≤255*256^7:=sX (by omega) J
 have U:((a:Int)%(2^(IntKind.u64).bits:Int)).toNat=a:=by simp only [IntKind.bits]; omega
 have h2:(((d*256^i:Nat):Int)%(2^(IntKind.u64).bits:Int)).toNat=d*256^i:=by simp only [IntKind.bits]; omega
 have h3:Nat.lor a (d*256^i)=a+d*256^i:=by
  have e:d*256^i=2^(8*i)*d:=by rw [←GX,qM]
  have:=C9 (i:=8*i) (b:=a) (by rw [←GX]; exact I) d
  rw [←e] at this
  rw [s_ a,this]
  exact Nat.or_comm _ _
 simp only [binV,ikBeq,ah,intV,bitsV,U,h2,h3]
 rw [wrap_u64 (by omega)]
section
variable {told:dF} {h:H} {S:List ax} {X:ax} {k:Nat} {v:V} {l:List Nat}
noncomputable def wdL : Code:=cJ [1,1,0,1,0,0] ((Tryz.f61.body).getD .skip)
theorem Nr (U:View h v l)(hl:l.length≤8): ∀(j i:Nat) (E:List (Nat×V)) (Q:Ex→List (Nat×V)→H→Prop),i+j=l.length →
  Has E [(3,.int .u64 (leN (l.take i))),(6,v),(7,.int .i64 l.length),(8,.int .i64 i)]→(∀E',look E' 3=some (.int .u64 (leN l))→Q (.exit 0) E' h)→WP ⟨Tryz.prog,told⟩ 22 (.loop wdL) E h Q:=by
 intro j
 induction j with
 | zero =>
  intro i E Q hi hE hq
  refine WP.loop (WP.has hE (zg rfl (zh rfl (ag rfl rfl bx) (by simp; omega) ?_)))
  refine zk 3 rfl (WP.exit (hq _ ?_))
  rw [fI (by omega)]
  rfl
 | succ j ih =>
  intro i E Q hi hE hq
  have J:l[i]?=some (l[i]'(by omega)):=bg _
  generalize BS:(l[i]'(by omega))=b at J
  have I:b<256:=U.1 b (bq J)
  obtain ⟨id,off,e1,e2⟩:=g_ U J
  have ht:l.take (i+1)=l.take i++[b]:=by rw [zT,J]; rfl
  have bX:leN (l.take i)<256^i:=by
   have:=yL (l.take i) (fun x hx=>U.1 x (gr hx))
   rwa [dJ,o8 (by omega)] at this
  refine WP.loop (WP.has hE (zg rfl (zt rfl (ag rfl rfl bx) (by simp; omega) ?_)))
  refine zk 5 rfl (WP.block (zK 3 rfl (zo rfl (dG (r:=.ptr id off) rfl rfl e1) (zl rfl e2 (zk 6 rfl (zo rfl (b8 rfl (by exact jx Tryz.underlying5 cq (eR (by omega) (by omega)))) ?_))))))
  refine zm rfl (zb rfl (by exact Bk (aT (by omega) (by omega))) ?_)
  refine zb rfl (ZL I (by omega)) ?_
  refine zb rfl (or8 bX I (by omega)) ?_
  refine za rfl (zv (zr rfl (zb rfl (by exact bO (aT (by omega) (by omega))) ?_)))
  refine zm rfl (zv ?_)
  refine ih (i+1) _ _ (by omega) ?_ hq
  rw [ht,PO,dJ,o8 (by omega)]
  exact ⟨rfl,rfl,rfl,rfl,aa⟩
theorem pN (U:W told)(s:Sat h S)(hk:getA S k=some X)(hX:cR X (cV v l))(hl:l.length≤8): Call ⟨Tryz.prog,told⟩ 61 [v] h fun r h'=>r=.int .u64 (leN l)∧h'=h:=by
 have J:=s.aG hk hX
 refine Call.of_wp (U.free _ rfl) Tryz.func61 rfl rfl (zK 12 rfl (zo rfl (a_ rfl rfl rfl (bh aS J)) (zk 2 rfl (WP.block ?_))))
 refine Nr J hl l.length 0 _ _ (by omega) ⟨rfl,rfl,rfl,rfl,aa⟩ (fun E' I => ?_)
 exact WP.has (F:=[(3,.int .u64 (leN l))]) ⟨I,aa⟩ (zK 5 rfl (WP.ret ⟨aa,_,rfl,rfl,rfl⟩))
theorem RU (I:W told)(s:Sat h S)(J:getA S k=some X)(U:cR X (cV v l))(hl:l.length≤4611686018427387904): Call ⟨Tryz.prog,told⟩ 84 [v] h fun r h'=>r=.int .u32 (yJ 0 l:Nat)∧h'=h:=by
 refine Call.of_wp (I.free _ rfl) Tryz.func84 rfl rfl (zK 7 rfl (zc rfl (S2 (s:=0) I s J U (by decide) hl) ?_))
 rintro v h' ⟨rfl,rfl⟩
 exact zk 2 rfl (WP.ret ⟨aa,_,rfl,rfl,rfl⟩)
def eM (l:List Nat)(a z:Nat): Nat:=leN ((l.take (a+z)).drop a)
theorem uh (hT:W told){a z:Int}(s:Sat h S)(J:getA S k=some X)(U:cR X (cV v l))(ha:0≤a)(hz:1≤z)(ER:z≤7)(hl:a+z≤l.length)(lH:l.length≤65536):
  Call ⟨Tryz.prog,told⟩ 83 [.agg [v],.int .i64 a,.int .i64 z] h fun r h'=>r=.int .i64 (eM l a.toNat z.toNat)∧Sat h' S:=by
 have hv:=s.aG J U
 obtain ⟨pi,po,pc,rfl⟩:=kx hv (by omega)
 refine Call.of_wp (hT.free _ rfl) Tryz.func83 rfl rfl (zg rfl ?_)
 refine aB.cO s rfl rfl rfl (gw rfl rfl) (fun p3 h s => ?_)
 refine zk 4 rfl (zf rfl (pI _ _) (zl rfl (s.ld (k:=0) rfl bL rfl) (zk 3 rfl (zb rfl (by exact bO (aT (by omega) (by omega))) ?_))))
 refine zk 2 rfl (zb rfl (by exact bO (aT (by omega) (by omega))) ?_)
 have lJ:=IP (s.aG (tw J) U) (a:=a.toNat) (b:=(a+z).toNat) (c:=(a+z).toNat) (by omega) (by omega) (by omega) (by omega)
 refine zo rfl (cC (p:=some (.int .i64 a)) (q:=some (.int .i64 (a+z))) (m:=some (.int .i64 (a+z))) rfl rfl rfl rfl (fG ha) (fG (by omega)) (fG (by omega)) lJ) ?_
 have hlen:((l.take (a+z).toNat).drop a.toNat).length=z.toNat:=by simp; omega
 refine zc rfl (pN hT s (tw J) (Ng U (a:=a.toNat) (b:=(a+z).toNat) (c:=(a+z).toNat) (by omega) (by omega) (by omega) (by omega)) (by omega)) ?_
 rintro r h' ⟨rfl,rfl⟩
 have I:=yL ((l.take (a+z).toNat).drop a.toNat) (fun x hx=>hv.1 x (gr (ij hx)))
 have hp:256^z.toNat≤256^7:=oT (by omega) (by omega)
 rw [hlen] at I
 have e:(a+z).toNat=a.toNat+z.toNat:=by omega
 rw [e] at I ⊢
 refine zo rfl (b8 rfl (by exact jx cq bE (aT (by omega) (by omega)))) ?_
 exact zk 2 rfl (WP.ret ⟨aa,_,rfl,rfl,s.drop⟩)
theorem qi {a z:Nat}(I:∀b∈l,b<256): eM l a z<256^z:=by
 have:=yL ((l.take (a+z)).drop a) (fun x J=>I x (gr (ij J)))
 have U:((l.take (a+z)).drop a).length≤z:=by simp; omega
 exact gu this (oT (by omega) U)
def j5 (l:List Nat): Nat:=eM l 14 2
def iB (l:List Nat): Nat:=eM l 16 2
def jq (l:List Nat)(i:Nat): Nat:=eM l (26+4*i) 2
def lP (l:List Nat)(i:Nat): Nat:=eM l (26+4*i+2) 2
theorem PR (I:W told)(s:Sat h S)(J:getA S k=some X)(U:cR X (cV v l))(hl:l.length=512):
  Call ⟨Tryz.prog,told⟩ 78 [.agg [v]] h fun r h'=>r=.int .i64 (j5 l)∧Sat h' S:=by
 have hv:=s.aG J U
 obtain ⟨pi,po,pc,rfl⟩:=kx hv (by omega)
 refine Call.of_wp (I.free _ rfl) Tryz.func78 rfl rfl (zg rfl ?_)
 refine aB.cO s rfl rfl rfl (gw rfl rfl) (fun p1 h s => ?_)
 refine zk 4 rfl (zl rfl (s.fE (k:=0) rfl gA dV) (zc rfl (uh I s (tw J) U (by decide) (by decide) (by decide) (by omega) (by omega)) ?_))
 rintro r h' ⟨rfl,s⟩
 exact zk 2 rfl (WP.ret ⟨aa,_,rfl,rfl,s.drop⟩)
theorem Vn (I:W told)(s:Sat h S)(J:getA S k=some X)(U:cR X (cV v l))(hl:l.length=512):
  Call ⟨Tryz.prog,told⟩ 79 [.agg [v]] h fun r h'=>r=.int .i64 (iB l)∧Sat h' S:=by
 have hv:=s.aG J U
 obtain ⟨pi,po,pc,rfl⟩:=kx hv (by omega)
 refine Call.of_wp (I.free _ rfl) Tryz.func79 rfl rfl (zg rfl ?_)
 refine aB.cO s rfl rfl rfl (gw rfl rfl) (fun p1 h s => ?_)
 refine zk 4 rfl (zl rfl (s.fE (k:=0) rfl gA dV) (zc rfl (uh I s (tw J) U (by decide) (by decide) (by decide) (by omega) (by omega)) ?_))
 rintro r h' ⟨rfl,s⟩
 exact zk 2 rfl (WP.ret ⟨aa,_,rfl,rfl,s.drop⟩)
end
def qz (t:List Bool): List V:=t.map V.bool
theorem JY (t:List Bool)(k:Nat)(b:Bool): (qz t).set k (.bool b)=qz (t.set k b):=by simp [qz,List.map_set]
theorem Ay {t:List Bool}{k:Nat}(I:k<t.length): nth (qz t) k=some (.bool (t.getD k false)):=by
 rw [fM]; simp [qz,bg I]
theorem PS : zeroT Tryz.prog 147=some (.agg (qz (List.replicate 512 false))):=by kernel_rfl
def markL : Nat→Nat→List Bool→Option (List Bool)
 | 0,_,t=>some t
 | n+1,k,t=>if t.getD k false then none else markL n (k+1) (t.set k true)
def cellsL (l:List Nat)(low:Nat): Nat→Nat→List Bool→Bool
 | 0,_,_=>true
 | n+1,i,t=>if jq l i<low∨512<jq l i+lP l i then false else match markL (lP l i) (jq l i) t with
  | none=>false
  | some t'=>cellsL l low n (i+1) t'
def bU (l:List Nat): Bool:=decide (l.length=512)&&(decide (l.getD 13 0=0)&&(decide (26+4*j5 l≤iB l∧iB l≤512)&&cellsL l (iB l) (j5 l) 0 (List.replicate 512 false)))
theorem ES : ∀(n k:Nat) (t t':List Bool),markL n k t=some t'→t'.length=t.length:=by
 intro n
 induction n with
 | zero=>intro k t t' h; simp only [markL] at h; injection h with h; subst h; rfl
 | succ n I =>
  intro k t t' h
  simp only [markL] at h
  split at h
  ·cases h
  ·have:=I _ _ _ h; simpa using this
section
variable {told:dF} {h:H} {S:List ax} {X:ax} {k:Nat} {v:V} {l:List Nat}
theorem S8 (I:W told){i:Nat}(s:Sat h S)(J:getA S k=some X)(U:cR X (cV v l))(hl:l.length=512)(hi:30+4*i≤512):
  Call ⟨Tryz.prog,told⟩ 80 [.agg [v],.int .i64 (i:Int)] h fun r h'=>r=.bD [.int .i64 (jq l i),.int .i64 (lP l i)]∧Sat h' S:=by
 have hv:=s.aG J U
 obtain ⟨pi,po,pc,rfl⟩:=kx hv (by omega)
 have e1:(26+4*(i:Int)).toNat=26+4*i:=by omega
 have e2:(26+4*(i:Int)+2).toNat=26+4*i+2:=by omega
 refine Call.of_wp (I.free _ rfl) Tryz.func80 rfl rfl (zg rfl ?_)
 refine aB.cO s rfl rfl rfl (gw rfl rfl) (fun p2 h s => ?_)
 refine zk 6 rfl (zb rfl (by exact Bk (aT (by omega) (by omega))) ?_)
 refine zb rfl (by exact bO (aT (by omega) (by omega))) ?_
 refine zk 3 rfl ?_
 have s0:=s
 refine WP.drawn [ai,ai,ai,some (0,2),some (0,2),some (0,2),ai,ai,ai] rfl (by kernel_rfl) (by kernel_rfl) ?_
 refine zL rfl (s.fE (k:=0) rfl gA dV) (zM rfl (aA.any rfl rfl rfl rfl (OpR.call rfl rfl rfl rfl (uh I s (tw J) U (by omega) (by decide) (by decide) (by omega) (by omega))) ?_))
 rintro r h' ⟨rfl,s⟩
 rw [e1]
 have s1:=s
 refine zL rfl (s.fE (k:=0) rfl gA dV) (zM rfl (zO rfl (ag rfl rfl (by exact bO (aT (by omega) (by omega)))) ?_))
 refine aA.any rfl rfl rfl rfl (OpR.call rfl rfl rfl rfl (uh I s (tw J) U (by omega) (by decide) (by decide) (by omega) (by omega))) ?_
 rintro r h' ⟨rfl,s⟩
 rw [e2]
 refine zA rfl (zA rfl ?_)
 refine aA.nil ⟨⟨aa,aa,aa,dP (.inr ⟨rfl,⟨_,aV rfl (s0.fE (k:=0) rfl gA dV)⟩,aW _ rfl⟩) (.inr ⟨rfl,⟨_,aV rfl (s1.fE (k:=0) rfl gA dV)⟩,aW _ rfl⟩),fun _ _=>.inr ⟨rfl,⟨_,bk rfl⟩,aW _ rfl⟩,fun _ _=>.inr ⟨rfl,⟨_,ag rfl rfl (by exact bO (aT (by omega) (by omega)))⟩,aW _ rfl⟩,aa,aa,aa,aa⟩,?_⟩
 refine WP.ret ⟨aa,_,rfl,?_⟩
 exact ⟨rfl,s.drop⟩
noncomputable def gdO : Code:=cJ [1,1,1,1,1,1,0,1,0,0] ((Tryz.f43.body).getD .skip)
noncomputable def gdI : Code:=cJ [1,1,1,1,1,1,0,1,0,0,1,1,0,0,1,1,1,1,0,0] ((Tryz.f43.body).getD .skip)
theorem Lr {I a z:Nat}{v3 v4 v5 v35 v36:V}(haz:a+z≤512): ∀(m q:Nat) (t:List Bool) (h:H) (E:List (Nat×V)) (Q:Ex→List (Nat×V)→H→Prop),q+m=a+z→t.length=512 →
  Sat h (pt I (.cells 512 (qz t) false)::S)→Has E [(3,v3),(4,v4),(5,v5),(6,.ptr I 0),(8,.int .i64 (a:Int)),(9,.int .i64 (z:Int)),(10,.int .i64 (q:Int)),(35,v35),(36,v36)] →
  (markL m q t=none→∀E' h',look E' 2=some (.bool false)→Sat h' S→Q .ret E' h') →
  (∀t' E' h',markL m q t=some t'→Has E' [(3,v3),(4,v4),(5,v5),(6,.ptr I 0),(35,v35),(36,v36)]→Sat h' (pt I (.cells 512 (qz t') false)::S)→Q (.exit 2) E' h') →
  WP ⟨Tryz.prog,told⟩ 68 (.loop gdI) E h Q:=by
 intro m
 induction m with
 | zero =>
  intro q t h E Q hq ht s hE U hx
  refine WP.loop (WP.has hE (zK 6 rfl (zb rfl (by exact bO (aT (by omega) (by omega))) ?_)))
  refine zh rfl (ag rfl rfl bx) (by simp; omega) ?_
  exact zk 2 rfl (WP.exit (hx t _ _ rfl ⟨rfl,rfl,rfl,rfl,rfl,rfl,aa⟩ s))
 | succ m ih =>
  intro q t h E Q hq ht s hE U hx
  have J:q<t.length:=by omega
  refine WP.loop (WP.has hE (zK 6 rfl (zb rfl (by exact bO (aT (by omega) (by omega))) ?_)))
  refine zt rfl (ag rfl rfl bx) (by simp; omega) ?_
  refine zk 4 rfl (WP.block (zK 4 rfl (zo rfl (dG (r:=.ptr I q) rfl rfl (by rw [RG,show (decide ((0:Int)≤(q:Int))&&decide ((q:Int)<((512:Nat):Int)))=true by simp; omega,ah]; simp)) ?_)))
  cases hm:t.getD q false with
  | true =>
   refine zt rfl (aV rfl (s.ld (k:=0) rfl jV (Ay J))) (hm) (zk 6 rfl (WP.ret ?_))
   refine U ?_ _ _ rfl s.drop
   rw [markL,aj hm]
  | false =>
   refine zh rfl (aV rfl (s.ld (k:=0) rfl jV (Ay J))) (hm) (zk 5 rfl (zo rfl (dG (r:=.ptr I q) rfl rfl (by rw [RG,show (decide ((0:Int)≤(q:Int))&&decide ((q:Int)<((512:Nat):Int)))=true by simp; omega,ah]; simp)) ?_))
   refine zS rfl (s.dZ (k:=0) rfl xN (by simp [qz,ht]) (by omega) rfl rfl) ?_
   intro h s
   dsimp only [setA] at s
   rw [JY] at s
   refine zv (zr rfl (zm rfl (zb rfl (by exact bO (aT (by omega) (by omega))) ?_)))
   refine za rfl (zv ?_)
   have e:markL (m+1) q t=markL m (q+1) (t.set q true):=by rw [markL,af (by rw [hm]; decide)]
   rw [e] at U hx
   exact ih (q+1) (t.set q true) h _ Q (by omega) (by simp [ht]) s ⟨rfl,rfl,rfl,rfl,rfl,rfl,rfl,rfl,rfl,aa⟩ U hx
theorem Ls (hT:W told){p6 p3:Nat}{n low:Nat}{x:V}(hX:cR X (cV x l))(hl:l.length=512)(bX:∀b∈l,b<256)(X7:x.cells=[x])(hx2:storable x=true)(hn:n=j5 l)(wU:26+4*n≤low)(Xj:low≤512): ∀(m i:Nat) (t:List Bool) (h:H) (E:List (Nat×V)) (Q:Ex→List (Nat×V)→H→Prop),i+m=n→t.length=512 →
  Sat h (pt p6 (.cells 512 (qz t) false)::pt p3 (.cells 1 [x] false)::X::S)→Has E [(3,.ptr p3 0),(4,.int .i64 (n:Int)),(5,.int .i64 (low:Int)),(6,.ptr p6 0),(35,.int .i64 (n:Int)),(36,.int .i64 (i:Int))] →
  (cellsL l low m i t=false→∀E' h',look E' 2=some (.bool false)→Sat h' (X::S)→Q .ret E' h') →
  (cellsL l low m i t=true→∀E' h',Sat h' (X::S)→Q (.exit 0) E' h') →
  WP ⟨Tryz.prog,told⟩ 68 (.loop gdO) E h Q:=by
 intro m
 induction m with
 | zero =>
  intro i t h E Q hi ht s hE J hx
  refine WP.loop (WP.has hE (zg rfl (zh rfl (ag rfl rfl bx) (by simp; omega) ?_)))
  exact zk 3 rfl (WP.exit (hx rfl _ _ s.drop.drop))
 | succ m ih =>
  intro i t h E Q hi ht s hE J hx
  have hf:=qi (l:=l) (a:=26+4*i) (z:=2) bX
  have hz:=qi (l:=l) (a:=26+4*i+2) (z:=2) bX
  have ef:jq l i=eM l (26+4*i) 2:=rfl
  have ez:lP l i=eM l (26+4*i+2) 2:=rfl
  refine WP.loop (WP.has hE (zg rfl (zt rfl (ag rfl rfl bx) (by simp; omega) ?_)))
  refine zk 5 rfl (WP.block (zK 7 rfl (zl rfl (s.fE (k:=1) rfl gA dV) (zm rfl (zc rfl (S8 (i:=i) hT s (k:=2) rfl hX hl (by omega)) ?_)))))
  rintro r h' ⟨rfl,s⟩
  refine zk 11 rfl ?_
  refine zd rfl (ag rfl rfl bx) ?_ ?_
  ·intro U
   have U:jq l i<low:=by simp at U; omega
   refine zk 12 rfl (WP.ret ?_)
   refine J ?_ _ _ rfl s.drop.drop
   rw [cellsL,aj (.inl U)]
  ·intro U
   have U:low≤jq l i:=by simp at U; omega
   refine zk 3 rfl (zb rfl (by exact bO (aT (by omega) (by omega))) ?_)
   refine zd rfl (ag rfl rfl dR) ?_ ?_
   ·intro I
    have I:512<jq l i+lP l i:=by simp at I; omega
    refine zk 7 rfl (WP.ret ?_)
    refine J ?_ _ _ rfl s.drop.drop
    rw [cellsL,aj (.inr I)]
   ·intro I
    have I:jq l i+lP l i≤512:=by simp at I; omega
    refine zk 9 rfl (WP.block ?_)
    have e:cellsL l low (m+1) i t=(match markL (lP l i) (jq l i) t with | none=>false | some t'=>cellsL l low m (i+1) t'):=by rw [cellsL,af (by omega)]
    rw [e] at J hx
    refine Lr I (lP l i) (jq l i) t _ _ _ rfl ht s ⟨rfl,rfl,rfl,rfl,rfl,rfl,rfl,rfl,rfl,aa⟩ (fun hm E' h' h2 s' => ?_) (fun t' E' h' hm gq s' => ?_)
    ·rw [hm] at J
     exact J rfl _ _ h2 s'.drop
    ·rw [hm] at J hx
     refine WP.has gq (zr rfl (zb rfl (by exact bO (aT (by omega) (by omega))) ?_))
     refine zm rfl (zv ?_)
     exact ih (i+1) t' h' _ Q (by omega) (by rw [ES _ _ _ _ hm,ht]) s' ⟨rfl,rfl,rfl,rfl,rfl,rfl,aa⟩ J hx
theorem JZ (hT:W told)(s:Sat h (X::S))(hX:cR X (cV v l))(lH:l.length<9223372036854775808):
  Call ⟨Tryz.prog,told⟩ 43 [v] h fun r h'=>r=.bool (bU l)∧Sat h' (X::S):=by
 have hv:=s.aG (k:=0) rfl hX
 refine Call.of_wp (hT.free _ rfl) Tryz.func43 rfl rfl (zK 8 rfl (zo rfl (a_ rfl rfl rfl (bh aS (s.aG (k:=0) rfl hX))) ?_))
 refine zd rfl (ag rfl rfl aX) ?_ ?_
 ·intro hq
  have hq:l.length≠512:=by simp at hq; omega
  exact zk 12 rfl (WP.ret ⟨aa,_,rfl,by rw [bU,eB hq,eW],s⟩)
 ·intro hq
  have hq:l.length=512:=by simp at hq; omega
  have hb:l[13]?=some (l[13]'(by omega)):=bg _
  generalize BS:(l[13]'(by omega))=b at hb
  have uj:l.getD 13 0=b:=by rw [ke,hb]; rfl
  obtain ⟨id,off,e1,e2⟩:=g_ hv hb
  refine zk 2 rfl (zo rfl (dG (r:=.ptr id off) rfl rfl e1) (zl rfl e2 ?_))
  refine zd rfl (ag rfl rfl aX) ?_ ?_
  ·intro I
   have I:b≠0:=by simp at I; omega
   exact zk 7 rfl (WP.ret ⟨aa,_,rfl,by rw [bU,dN hq,uj,eB I,eW,lV],s⟩)
  ·intro I
   have I:b=0:=by simp at I; omega
   obtain ⟨pi,po,pc,rfl⟩:=kx hv (by omega)
   refine zk 7 rfl (zo rfl (cX rfl (by rw [Cj]; rfl)) ?_)
   refine aB.cO s rfl rfl rfl (cH oD) (fun p3 h s => ?_)
   refine zS rfl (s.gX (j:=0) rfl dV rfl rfl) (fun h s => ?_)
   refine zk 2 rfl ?_
   have s0:=s
   refine WP.drawn [none,none,some (0,2),ai,ai,ai] rfl (by kernel_rfl) (by kernel_rfl) ?_
   refine zL rfl (s.fE (k:=0) rfl gA dV) (aA.any rfl rfl rfl rfl (OpR.call rfl rfl rfl rfl (PR hT s (k:=1) rfl hX hq)) ?_)
   rintro r h' ⟨rfl,s⟩
   have s1:=s
   refine zL rfl (s.fE (k:=0) rfl gA dV) (aA.any rfl rfl rfl rfl (OpR.call rfl rfl rfl rfl (Vn hT s (k:=1) rfl hX hq)) ?_)
   rintro r h' ⟨rfl,s⟩
   refine zA rfl (zA rfl ?_)
   refine aA.nil ⟨⟨aa,aa,dP (.inr ⟨rfl,⟨_,aV rfl (s0.fE (k:=0) rfl gA dV)⟩,aW _ rfl⟩) (.inr ⟨rfl,⟨_,aV rfl (s1.fE (k:=0) rfl gA dV)⟩,aW _ rfl⟩),aa,aa,aa,aa⟩,?_⟩
   have xH:=qi (l:=l) (a:=14) (z:=2) hv.1
   have uH:=qi (l:=l) (a:=16) (z:=2) hv.1
   have ec:j5 l=eM l 14 2:=rfl
   have el:iB l=eM l 16 2:=rfl
   refine zK 4 rfl (zb rfl (by exact Bk (aT (by omega) (by omega))) ?_)
   refine zb rfl (by exact bO (aT (by omega) (by omega))) ?_
   refine zm rfl ?_
   refine zd rfl (ag rfl rfl dR) ?_ ?_
   ·intro J
    have J:iB l<26+4*j5 l:=by simp at J; omega
    exact zk 10 rfl (WP.ret ⟨aa,_,rfl,by rw [bU,dN hq,uj,dN I,eB (by omega:¬(26+4*j5 l≤iB l∧iB l≤512))]; rfl,s.drop⟩)
   ·intro J
    have J:26+4*j5 l≤iB l:=by simp at J; omega
    refine zk 2 rfl ?_
    refine zd rfl (ag rfl rfl dR) ?_ ?_
    ·intro U
     have U:512<iB l:=by simp at U; omega
     exact zk 7 rfl (WP.ret ⟨aa,_,rfl,by rw [bU,dN hq,uj,dN I,eB (by omega:¬(26+4*j5 l≤iB l∧iB l≤512))]; rfl,s.drop⟩)
    ·intro U
     have U:iB l≤512:=by simp at U; omega
     refine zk 6 rfl (aB.cO s rfl rfl rfl (cH PS) ?_)
     intro p6 h s
     have xD:(qz (List.replicate 512 false)).length=512:=by rw [qz,d_,ff]
     dsimp only [V.cells] at s
     rw [xD] at s
     refine zk 7 rfl (WP.block ?_)
     have hg:bU l=cellsL l (iB l) (j5 l) 0 (List.replicate 512 false):=by
      rw [bU,dN hq,uj,dN I,dN (⟨J,U⟩:26+4*j5 l≤iB l∧iB l≤512)]; rfl
     refine Ls hT hX hq hv.1 rfl rfl rfl J U (j5 l) 0 (List.replicate 512 false) _ _ _ (by omega) ff s ⟨rfl,rfl,rfl,rfl,rfl,rfl,aa⟩ (fun hc E' h' h2 s' => ?_) (fun hc E' h' s' => ?_)
     ·rw [hg,hc]
      exact ⟨aa,_,oF h2,rfl,s'⟩
     ·rw [hg,hc]
      exact WP.has (F:=[]) aa (zK 4 rfl (WP.ret ⟨aa,_,rfl,rfl,s'⟩))
end
end Go.Proofs.YtconhghphklfjaaGreat.Am
