/- SpaceRoots: a part of its proof; conditions: its statement's. -/
import Derived.Test.YtefepnnfphdkpaaGreatF18
set_option linter.defProp false
namespace Go.Proofs.YtefepnnfphdkpaaGreat.Am
open Go
def zI:=@Tryz.underlying146
section
variable {told:cQ} {h:H} {S:List au} {X:au} {p:Nat} {δ:Dk}
def Dk.wr (δ:Dk)(n:Int)(b:List Nat): Dk:={ δ.c8 with waiting:=δ.waiting++[(n.toNat,b)],now:=cB n b δ.now }
theorem UD : ∃i,Tryz.prog.info? 151=some i∧i.size=2∧i.bytes=32 :=
 ⟨_,(show Tryz.prog.info? 151=some ((Tryz.prog.info? 151).getD default) by kernel_rfl),by kernel_rfl,by kernel_rfl⟩
theorem Sat.WX {cs:List V}{m:List Wr}{u:V}{x:Wr}(s:Sat h (.cx u x.2::uu cs m::S))(hu:u≠.bw): Sat h (uu (cs++[.int .i64 (x.1:Int),u]) (m++[x])::S) :=
 s.two (aW.cx _ _) (aW.wr _ _) fun _ _ I J=>UB J hu I
theorem OH (hT:W told){n:Int}{x:V}{b:List Nat}(s:Sat h (aR p δ::X::S))(hX:cT X (cU x b))(hb:b.length<1073741824)(hf:δ.aP<4294967296)(hw:δ.waiting.length≤268435456):
  Call ⟨Tryz.prog,told⟩ 138 [.ptr p 0,.int .i64 n,x] h fun v h' =>
  (δ.dead=true∧v=.int .i64 9∧Sat h' (aR p δ::X::S)) ∨
  (δ.dead=false∧¬(0≤n∧n<δ.ax.length∧b.length=512)∧v=.int .i64 1∧Sat h' (aR p δ::X::S)) ∨
  (δ.dead=false∧0≤n∧n<δ.ax.length∧b.length=512∧δ.aP=0∧v=.int .i64 9∧Sat h' (aR p { δ.die with eE:=some (n.toNat,b) }::X::S)) ∨
  (δ.dead=false∧0≤n∧n<δ.ax.length∧b.length=512∧δ.aP≠0∧v=.int .i64 0∧Sat h' (aR p (δ.wr n b)::X::S)):=by
 have J:=s
 obtain ⟨pg,wt,nw,lg,mk,tn,tl,ops,s⟩:=bG.1 s
 refine Call.of_wp (hT.free _ rfl) Tryz.func138 rfl rfl (zK 5 rfl (WP.block (zK 4 rfl (zf rfl (ko _ _) ?_))))
 refine zd rfl (bh rfl (s.ld (k:=0) rfl kX rfl)) ?_ ?_
 ·intro hd
  exact zk 7 rfl (WP.ret ⟨aa,_,rfl,.inl ⟨hd,rfl,J⟩⟩)
 ·intro hd
  refine zk 7 rfl (zc rfl (OG hT J) ?_)
  rintro v h' ⟨rfl,(⟨ux,sA,rfl⟩ | ⟨hn,rfl⟩)⟩
  ·skip
   refine zo rfl (eD rfl rfl) (zk 2 rfl (zo rfl (aU rfl rfl rfl (a_ aG (s.aE (k:=8) rfl hX))) ?_))
   refine zd rfl (af rfl rfl aN) ?_ ?_
   ·intro I
    have I:b.length≠512:=by simp at I; omega
    exact zk 8 rfl (WP.ret ⟨aa,_,rfl,.inr (.inl ⟨hd,fun q=>I q.2.2,rfl,J⟩)⟩)
   ·intro I
    have I:b.length=512:=by simp at I; omega
    refine zk 2 rfl (zv (zj rfl (WP.skip (zg rfl (zk 2 rfl (zc rfl (jv hT (J.ae [1]) hX hb) ?_))))))
    intro u h s
    obtain ⟨qw,_,cap,_,rfl,_⟩:=s.fI (by omega)
    have s:=s.fU
    have ZS:((n.toNat:Nat):Int)=n:=by omega
    refine zo rfl (c_ rfl (by rw [YC]; rfl)) ?_
    refine aA.b5 s rfl rfl rfl (bX GI) (fun p7 h s => ?_)
    refine zS rfl (s.eH (j:=0) rfl C4 rfl rfl) (fun h s => ?_)
    refine zk 5 rfl (zc rfl (pI hT (s.ae [3]) hf) ?_)
    rintro v h (⟨h0,rfl,s⟩ | ⟨h0,rfl,s⟩)
    ·skip
     obtain ⟨pg,wt,nw,lg,mk,tn,tl,ops,s⟩:=bG.1 s
     refine zo rfl (eD rfl rfl) (zk 6 rfl (zf rfl (uj _ _) ?_))
     refine zS rfl (by exact s.ey (k:=0) rfl YA rfl (by decide) rfl rfl) (fun h s => ?_)
     dsimp only [wK,V.cells,List.length_cons,List.length_nil,Nat.reduceAdd,aQ,bringA,List.take,List.drop,List.cons_append,List.nil_append,setA,List.set] at s
     refine zk 5 rfl (WP.ret ⟨aa,_,rfl,?_⟩)
     have s1:=s.ae [8,8,8]
     have s2:Sat h (A7 _ (some (n.toNat,b))::_):=gN.2 ⟨_,gN.2 ⟨_,bQ.2 (eo.2 ⟨rfl,by rw [ZS]; exact s1⟩)⟩⟩
     have s3:=(s2.del 8).ae [2,2,2,2,2,2,0,1,0]
     exact .inr (.inr (.inl ⟨hd,ux,sA,I,h0,rfl,bG.2 ⟨_,_,_,_,_,_,_,_,s3⟩⟩))
    ·skip
     obtain ⟨pg,wt,nw,lg,mk,tn,tl,ops,s⟩:=bG.1 s
     dsimp only [Dk.c8] at s
     obtain ⟨cs,sw⟩:=mA.1 (s.ae [2])
     have s:=sw.ae [2,8,0,0]
     dsimp only [wK,V.cells,List.length_cons,List.length_nil,Nat.reduceAdd,aQ,bringA,List.take,List.drop,List.cons_append,List.nil_append,setA,getA] at s
     have J:=s
     have OI:=(s.jb (j:=2) rfl).2.2
     refine zo rfl (eD rfl rfl) (zk 4 rfl (WP.drawn [some (0,3),some (0,2),some (0,2),some (0,2),some (0,2),ai,ai,ai,ai,ai,ai] rfl (by kernel_rfl) (by kernel_rfl) ?_))
     refine zM rfl (zM rfl (zN rfl (zF rfl (tC _ _) (zL rfl (s.ld (k:=0) rfl C3 rfl) (zL rfl (s.cA (k:=1) rfl Th C4) ?_)))))
     obtain ⟨i1,kB,jF,wL⟩:=UD
     obtain ⟨sv,h1,e1,s1⟩:=l_ (P:=Tryz.prog) (x:=.agg [.int .i64 n,.sl qw 0 b.length cap]) s zI GI C4 rfl (by decide) (by decide) rfl rfl
     dsimp only [V.cells] at s1
     refine aB.any rfl rfl rfl rfl (OpR.of (R:=fun v h'=>v=sv∧h'=h1) (om rfl e1) ⟨rfl,rfl⟩) ?_
     rintro v h' ⟨rfl,rfl⟩
     have iG:cs.length=δ.waiting.length*2:=by
      obtain ⟨a,b,q1,q2,q3⟩:=s.at (k:=3) rfl
      exact A5 q3
     obtain ⟨wt',h2,e2,s2⟩:=iK (s1.ae [3,0]) zI kB GI jF (by omega) rfl (by decide) (by simp only [V.cells,aS,bT]; omega)
     dsimp only [aQ,bringA] at s2
     refine aB.any rfl rfl rfl rfl (OpR.of (R:=fun v h'=>v=wt'∧h'=h2) (mF rfl rfl e2) ⟨rfl,rfl⟩) ?_
     rintro v h' ⟨rfl,rfl⟩
     have hv:=s2.jb (j:=0) rfl
     refine zN rfl (zF rfl (tC _ _) (aB.i_ rfl rfl rfl (OpR.fO rfl rfl rfl (s2.ey (k:=2) rfl Tg rfl (by decide) hv.1 hv.2.1)) ?_))
     rintro v h ⟨rfl,s⟩
     dsimp only [Nat.reduceAdd,List.set,setA] at s
     refine aB.nil ⟨⟨fun _ _=>.inr ⟨rfl,⟨_,bz rfl⟩,bq _ rfl⟩,fun _ _=>.inr ⟨rfl,⟨_,bz rfl⟩,bq _ rfl⟩,fun _ _=>.inr ⟨rfl,⟨_,oK rfl⟩,bq _ rfl⟩,fun _ _=>.inr ⟨rfl,⟨_,lY rfl (tC _ _)⟩,bq _ rfl⟩,dW (.inr ⟨rfl,⟨_,bh rfl (J.ld (k:=0) rfl C3 rfl)⟩,OI⟩) (.inr ⟨rfl,⟨_,bh rfl (s1.ld (k:=1) rfl C3 rfl)⟩,OI⟩),aa,aa,aa,aa,aa,aa,aa⟩,?_⟩
     refine zw (WP.drawn [ai,ai,ai,ai,ai,ai,ai,ai] rfl (by kernel_rfl) (by kernel_rfl) ?_)
     refine zM rfl (zN rfl (zF rfl (AU _ _) (zL rfl (s.ld (k:=2) rfl jS rfl) (zM rfl (zF rfl (EF _ _) (zL rfl (s.ld (k:=3) rfl bJ rfl) (aB.i_ rfl rfl rfl (OpR.mapUpdate rfl rfl rfl rfl (oR (f:=fun v b=>au.cx v b) (x:=b) (fun _ _=>aW.cx _ _) (((s.ae [11]).dup (aW.cx _ _)).ae [0,7]) lp bD)) ?_)))))))
     intro v h s
     dsimp only [aQ,bringA] at s
     refine aB.nil ⟨⟨aa,aa,aa,aa,aa,aa,aa,aa,aa⟩,?_⟩
     refine zK 4 rfl (WP.ret ⟨aa,_,rfl,?_⟩)
     have s1:=(s.ae [1,5]).WX (x:=(n.toNat,b)) (by simp)
     rw [ZS] at s1
     have s2:=((mA.2 ⟨_,s1.ae [2,0]⟩).del 4).del 2
     exact .inr (.inr (.inr ⟨hd,ux,sA,I,h0,rfl,bG.2 ⟨_,_,_,_,_,_,_,_,s2.ae [2,2,0,0,0,0,0,0,0]⟩⟩))
  ·skip
   exact zo rfl (eD rfl rfl) (zk 12 rfl (WP.ret ⟨aa,_,rfl,.inr (.inl ⟨hd,fun q=>hn ⟨q.1,q.2.1⟩,rfl,J⟩)⟩))
theorem UE (J:W told)(s:Sat h (aR p δ::S))(hl:δ.log.length<1073741824): Call ⟨Tryz.prog,told⟩ 132 [.ptr p 0] h fun v h' =>
  (δ.dead=true∧v=.bj [.bw,.int .i64 9]∧Sat h' (aR p δ::S))∨(δ.dead=false∧∃b,v=.bj [b,.int .i64 0]∧Sat h' (aZ b δ.log::aR p δ::S)):=by
 have s0:=s
 obtain ⟨pg,wt,nw,lg,mk,tn,tl,ops,s⟩:=bG.1 s
 refine Call.of_wp (J.free _ rfl) Tryz.func132 rfl rfl (zK 10 rfl (zf rfl (ko _ _) ?_))
 refine zd rfl (bh rfl (s.ld (k:=0) rfl kX rfl)) ?_ ?_
 ·intro I
  exact zk 7 rfl (WP.ret ⟨aa,_,rfl,.inl ⟨I,rfl,s0⟩⟩)
 ·intro I
  refine zk 7 rfl (zf rfl (kn _ _) (zl rfl (s.ld (k:=0) rfl bJ rfl) (zc rfl (jv J (s.ae [4]) (bg _ _) hl) ?_)))
  intro v h s
  exact zk 3 rfl (WP.ret ⟨aa,_,rfl,.inr ⟨I,v,rfl,(bG.2 ⟨pg,wt,nw,lg,mk,tn,tl,ops,s.ae [2,2,2,2,1,1,1,1,0]⟩).ae [1]⟩⟩)
theorem Dd (J:W told)(s:Sat h (aR p δ::S))(hl:δ.mark.length≤64): Call ⟨Tryz.prog,told⟩ 131 [.ptr p 0] h fun v h' =>
  (δ.dead=true∧v=.bj [.bw,.int .i64 9]∧Sat h' (aR p δ::S))∨(δ.dead=false∧∃b,v=.bj [b,.int .i64 0]∧Sat h' (aZ b δ.mark::aR p δ::S)):=by
 have s0:=s
 obtain ⟨pg,wt,nw,lg,mk,tn,tl,ops,s⟩:=bG.1 s
 refine Call.of_wp (J.free _ rfl) Tryz.func131 rfl rfl (zK 10 rfl (zf rfl (ko _ _) ?_))
 refine zd rfl (bh rfl (s.ld (k:=0) rfl kX rfl)) ?_ ?_
 ·intro I
  exact zk 7 rfl (WP.ret ⟨aa,_,rfl,.inl ⟨I,rfl,s0⟩⟩)
 ·intro I
  refine zk 7 rfl (zf rfl (ED _ _) (zl rfl (s.ld (k:=0) rfl bJ rfl) (zc rfl (jv J (s.ae [5]) (dy _ _) (by omega)) ?_)))
  intro v h s
  exact zk 3 rfl (WP.ret ⟨aa,_,rfl,.inr ⟨I,v,rfl,(bG.2 ⟨pg,wt,nw,lg,mk,tn,tl,ops,s.ae [2,2,2,2,2,1,1,1,0]⟩).ae [1]⟩⟩)
theorem Q9 (hT:W told){n:Int}(s:Sat h (aR p δ::S))(hf:δ.aP<4294967296)(hl:δ.log.length<1073741824):
  Call ⟨Tryz.prog,told⟩ 134 [.ptr p 0,.int .i64 n] h fun v h' =>
  (δ.dead=true∧v=.int .i64 9∧Sat h' (aR p δ::S))∨(δ.dead=false∧¬(0≤n∧n≤δ.log.length)∧v=.int .i64 1∧Sat h' (aR p δ::S)) ∨
  (δ.dead=false∧0≤n∧n≤δ.log.length∧δ.aP=0∧v=.int .i64 9∧Sat h' (aR p δ.die::S)) ∨
  (δ.dead=false∧0≤n∧n≤δ.log.length∧δ.aP≠0∧v=.int .i64 0∧Sat h' (aR p { δ.c8 with log:=δ.log.take n.toNat,bp:=n.toNat }::S)):=by
 have s0:=s
 obtain ⟨pg,wt,nw,lg,mk,tn,tl,ops,s⟩:=bG.1 s
 refine Call.of_wp (hT.free _ rfl) Tryz.func134 rfl rfl (zK 5 rfl (WP.block (zK 4 rfl (zf rfl (ko _ _) ?_))))
 refine zd rfl (bh rfl (s.ld (k:=0) rfl kX rfl)) ?_ ?_
 ·intro hd
  exact zk 7 rfl (WP.ret ⟨aa,_,rfl,.inl ⟨hd,rfl,s0⟩⟩)
 ·intro hd
  refine zk 6 rfl ?_
  refine zd rfl (af rfl rfl aT) ?_ ?_
  ·intro J
   have J:n<0:=by simpa using J
   exact zk 16 rfl (WP.ret ⟨aa,_,rfl,.inr (.inl ⟨hd,fun q=>by omega,rfl,s0⟩)⟩)
  ·intro J
   have J:0≤n:=by simpa using J
   refine zk 4 rfl (zf rfl (kn _ _) (zl rfl (s.ld (k:=0) rfl bJ rfl) (zo rfl (aU rfl rfl rfl (a_ aG (s.aE (k:=4) rfl (bg _ _)))) ?_)))
   refine zd rfl (af rfl rfl gv) ?_ ?_
   ·intro I
    have I:(δ.log.length:Int)<n:=by simpa using I
    exact zk 8 rfl (WP.ret ⟨aa,_,rfl,.inr (.inl ⟨hd,fun q=>by omega,rfl,s0⟩)⟩)
   ·intro I
    have I:n≤δ.log.length:=by simpa using I
    refine zk 7 rfl (zc rfl (pI hT s0 hf) ?_)
    rintro v h (⟨h0,rfl,s⟩ | ⟨h0,rfl,s⟩)
    ·skip
     exact zo rfl (eD rfl rfl) (zk 7 rfl (WP.ret ⟨aa,_,rfl,.inr (.inr (.inl ⟨hd,J,I,h0,rfl,s⟩))⟩))
    ·skip
     obtain ⟨pg,wt,nw,lg,mk,tn,tl,ops,s⟩:=bG.1 s
     dsimp only [Dk.c8] at s
     obtain ⟨k,rfl⟩:∃k:Nat,n=k:=⟨n.toNat,by omega⟩
     refine zo rfl (eD rfl rfl) (za rfl (zv (zj rfl (WP.skip (zg rfl (zk 3 rfl (zf rfl (kn _ _) (zl rfl (by exact s.ld (k:=0) rfl bJ rfl) ?_))))))))
     refine zm rfl (zo rfl (cf (p:=none) (q:=some (.int .i64 (k:Int))) (m:=none) (p':=none) (q':=some k) (m':=none) rfl rfl rfl rfl rfl (by simp [gI,bndV]) rfl (ik (s.buf (k:=4) rfl).view (b:=k) (by omega)).1) ?_)
     refine zc rfl (jv hT (s.ae [4]) (xw (bg _ _) (b:=k) (by omega)) (by simp; omega)) ?_
     intro v h s
     have hv:=(s.buf (k:=0) rfl).view.cells
     refine zn rfl (zf rfl (kn _ _) (zS rfl (s.ey (k:=2) rfl gR rfl (by decide) hv.1 hv.2) ?_))
     intro h s
     refine zk 6 rfl (zf rfl (tD _ _) ?_)
     refine zS rfl (by exact s.ey (k:=2) rfl kW rfl (by decide) rfl rfl) (fun h s => ?_)
     refine zk 5 rfl (WP.ret ⟨aa,_,rfl,?_⟩)
     have s:=(s.del 1).ae [1,1,1,1,0,0,0,0]
     exact .inr (.inr (.inr ⟨hd,J,I,h0,rfl,bG.2 ⟨pg,wt,nw,v,mk,tn,tl,ops,s⟩⟩))
def Dk.fresh (ax room:Nat): Dk:={ room:=room,ax:=List.replicate ax none,waiting:=[],now:=[],log:=[],bp:=0,mark:=[],aP := -1,dead:=false,eE:=none,tail:=[] }
theorem UF : ∃i,Tryz.prog.info? 28=some i∧i.size=1∧i.bytes=24 :=
 ⟨_,(show Tryz.prog.info? 28=some ((Tryz.prog.info? 28).getD default) by kernel_rfl),by kernel_rfl,by kernel_rfl⟩
theorem JD (v:V): ∀n:Nat,repeatL [v] n=List.replicate n v:=by
 intro n
 induction n with
 | zero=>rfl
 | succ n I=>simp only [repeatL,I,vN,fg,cZ]
theorem OJ {a b:PM}: ∀n:Nat,(each lq (List.replicate n .bw) (List.replicate n none)).p a b:=by
 intro n
 induction n with
 | zero=>trivial
 | succ n I=>exact ⟨rfl,I⟩
theorem HQ (hT:W told){n m:Nat}(s:Sat h S)(hn:n<1073741824): Call ⟨Tryz.prog,told⟩ 88 [.int .i64 (n:Int),.int .i64 (m:Int)] h fun v h'=>∃p,v=.ptr p 0∧Sat h' (aR p (Dk.fresh n m)::S):=by
 refine Call.of_wp (hT.free _ rfl) Tryz.func88 rfl rfl (zK 8 rfl ?_)
 obtain ⟨i1,I,J,wL⟩:=UF
 obtain ⟨id,h1,e1,s1⟩:=Fw (P:=Tryz.prog) s gn I oP J (by omega) rfl (by decide) hn
 refine aA.any rfl rfl rfl (OpR.of (R:=fun v h'=>v=.sl id 0 n (.exact n)∧h'=h1) (sK rfl rfl e1) ⟨rfl,rfl⟩) ?_
 rintro v h ⟨rfl,rfl⟩
 have s:=s1
 dsimp only [V.cells] at s
 rw [c9,JD] at s
 refine aA.y6 s rfl rfl rfl rfl (fun p8 h s => ?_)
 refine zo rfl (c_ rfl (by rw [YB]; rfl)) ?_
 refine aA.b5 s rfl rfl rfl (fe rfl rfl) (fun p10 h s => ?_)
 refine zk 2 rfl (WP.ret ⟨aa,_,rfl,?_⟩)
 have s:=(ur (f:=fun v b=>au.cx v b) (s.ae [1]))
 have s:=s.rI.rI.HF
 have s:Sat _ (A6 .bw []::_):=mA.2 ⟨[],(s.gA (φ:=True) aa).oF⟩
 have s:Sat _ (A7 .cu none::_):=s.gA rfl
 have s:=s.ae [6,6]
 have hp:Sat _ (oH (.sl id 0 n (.exact n)) (List.replicate n none)::_):=gq.2 ⟨id,List.replicate n .bw,by rw [cY],by
  rw [cY]
  exact (((s.ae [1]).gA (φ:=True) aa).hO fun a b _=>OJ n).ae [1]⟩
 dsimp only [V.cells,List.take,List.length_cons,List.length_nil,Nat.reduceAdd,List.drop,List.cons_append,List.nil_append,aQ,bringA,getA] at hp
 exact ⟨_,rfl,bG.2 ⟨_,_,_,_,_,_,_,_,hp.ae [1,0,1,4,1,1,0,0]⟩⟩
theorem UG (hT:W told){n m:Int}(s:Sat h S): Call ⟨Tryz.prog,told⟩ 70 [.int .i64 n,.int .i64 m] h fun v h' =>
  (¬(1≤n∧n≤65536∧0≤m∧m≤16777216)∧v=.bj [.cu,.int .i64 1]∧Sat h' S) ∨
  (1≤n∧n≤65536∧0≤m∧m≤16777216∧∃p,v=.bj [.ptr p 0,.int .i64 0]∧Sat h' (aR p (Dk.fresh n.toNat m.toNat)::S)):=by
 refine Call.of_wp (hT.free _ rfl) Tryz.func70 rfl rfl (zK 9 rfl ?_)
 refine zd rfl (af rfl rfl aT) ?_ ?_
 ·intro hq
  have hq:n<1:=by simpa using hq
  exact zk 19 rfl (WP.ret ⟨aa,_,rfl,.inl ⟨fun q=>by omega,rfl,s⟩⟩)
 ·intro hq
  have hq:1≤n:=by simpa using hq
  refine zk 2 rfl ?_
  refine zd rfl (af rfl rfl gv) ?_ ?_
  ·intro I
   have I:65536<n:=by simpa using I
   exact zk 16 rfl (WP.ret ⟨aa,_,rfl,.inl ⟨fun q=>by omega,rfl,s⟩⟩)
  ·intro I
   have I:n≤65536:=by simpa using I
   refine zk 3 rfl ?_
   refine zd rfl (af rfl rfl aT) ?_ ?_
   ·intro J
    have J:m<0:=by simpa using J
    exact zk 12 rfl (WP.ret ⟨aa,_,rfl,.inl ⟨fun q=>by omega,rfl,s⟩⟩)
   ·intro J
    have J:0≤m:=by simpa using J
    refine zk 3 rfl ?_
    refine zd rfl (af rfl rfl gv) ?_ ?_
    ·intro pJ
     have pJ:16777216<m:=by simpa using pJ
     exact zk 8 rfl (WP.ret ⟨aa,_,rfl,.inl ⟨fun q=>by omega,rfl,s⟩⟩)
    ·intro pJ
     have pJ:m≤16777216:=by simpa using pJ
     refine zk 8 rfl ?_
     obtain ⟨n,rfl⟩:∃k:Nat,n=k:=⟨n.toNat,by omega⟩
     obtain ⟨m,rfl⟩:∃k:Nat,m=k:=⟨m.toNat,by omega⟩
     refine zc rfl (HQ hT s (by omega)) ?_
     rintro v h ⟨p,rfl,s⟩
     exact zk 3 rfl (WP.ret ⟨aa,_,rfl,.inr ⟨hq,I,J,pJ,p,rfl,s⟩⟩)
end
def leN : List Nat→Nat
 | []=>0
 | b::l=>b+256*leN l
theorem Q_ : ∀(l:List Nat) (b:Nat),leN (l++[b])=leN l+b*256^l.length:=by
 intro l
 induction l with
 | nil=>intro b; simp [leN]
 | cons x l I=>intro b; simp only [fg,leN,I,aS,o7,Nat.mul_add]; rw [←gx,qQ (256^l.length) 256,←Nat.mul_assoc b,qQ b 256,Nat.mul_assoc 256 b]
theorem De : ∀(l:List Nat),(∀b∈l,b<256)→leN l<256^l.length:=by
 intro l
 induction l with
 | nil=>intro _; simp [leN]
 | cons x l I =>
  intro h
  have h1:=I (fun b J=>h b (bn _ J))
  have h2:=h x bu
  simp only [leN,aS,o7]
  omega
theorem HR (i:Nat): (256:Nat)^i=2^(8*i):=by rw [Nat.pow_mul]
theorem aaM {P:Program}{h:H}{t:TypeId}{x y:Operand}{d i:Nat}(hd:d<256)(hi:i≤7): binV P h .shl t x y (.int .u64 (d:Int)) (.int .i64 (8*(i:Int)))=some (.int .u64 ((d*256^i:Nat):Int)):=by
 have J:(256:Nat)^i≤256^7:=sQ (by omega) hi
 have I:d*256^i<18446744073709551616:=by
  have:d*256^i≤255*256^7:=sZ (by omega) J
  omega
 simp only [binV,shiftV,IntKind.bits]
 have e:(8*(i:Int)).toNat=8*i:=by omega
 rw [e,show min (8*i) 64=8*i by omega,show decide (8*(i:Int)<0)=false by simp; omega,az]
 have:(d:Int)*2^(8*i)=((d*256^i:Nat):Int):=by rw [HR]; push_cast; rfl
 simp only [this,wrap_u64 I]
theorem or8 {P:Program}{h:H}{t:TypeId}{x y:Operand}{a d i:Nat}(I:a<256^i)(hd:d<256)(hi:i≤7): binV P h .or t x y (.int .u64 (a:Int)) (.int .u64 ((d*256^i:Nat):Int))=some (.int .u64 ((a+d*256^i:Nat):Int)):=by
 have J:(256:Nat)^i≤256^7:=sQ (by omega) hi
 have hm:d*256^i≤255*256^7:=sZ (by omega) J
 have h1:((a:Int)%(2^(IntKind.u64).bits:Int)).toNat=a:=by simp only [IntKind.bits]; omega
 have h2:(((d*256^i:Nat):Int)%(2^(IntKind.u64).bits:Int)).toNat=d*256^i:=by simp only [IntKind.bits]; omega
 have h3:Nat.lor a (d*256^i)=a+d*256^i:=by
  have e:d*256^i=2^(8*i)*d:=by rw [←HR,qQ]
  have:=Ki (i:=8*i) (b:=a) (by rw [←HR]; exact I) d
  rw [←e] at this
  rw [tc a,this]
  exact Nat.or_comm _ _
 simp only [binV,ikBeq,ag,intV,bitsV,h1,h2,h3]
 rw [wrap_u64 (by omega)]
section
variable {told:cQ} {h:H} {S:List au} {X:au} {k:Nat} {v:V} {l:List Nat}
noncomputable def wdL : Code:=dB [1,1,0,1,0,0] ((Tryz.f86.body).getD .skip)
theorem OK (hv:View h v l)(hl:l.length≤8): ∀(j i:Nat) (E:List (Nat×V)) (Q:Ex→List (Nat×V)→H→Prop),i+j=l.length →
  Has E [(3,.int .u64 (leN (l.take i))),(6,v),(7,.int .i64 l.length),(8,.int .i64 i)]→(∀E',look E' 3=some (.int .u64 (leN l))→Q (.exit 0) E' h)→WP ⟨Tryz.prog,told⟩ 22 (.loop wdL) E h Q:=by
 intro j
 induction j with
 | zero =>
  intro i E Q hi hE hq
  refine WP.loop (WP.has hE (zg rfl (zh rfl (af rfl rfl aT) (by simp; omega) ?_)))
  refine zk 3 rfl (WP.exit (hq _ ?_))
  rw [dO (by omega)]
  rfl
 | succ j ih =>
  intro i E Q hi hE hq
  have J:l[i]?=some (l[i]'(by omega)):=bf _
  generalize Kt:(l[i]'(by omega))=b at J
  have I:b<256:=hv.1 b (bC J)
  obtain ⟨id,off,e1,e2⟩:=eP hv J
  have ht:l.take (i+1)=l.take i++[b]:=by rw [D8,J]; rfl
  have bF:leN (l.take i)<256^i:=by
   have:=De (l.take i) (fun x hx=>hv.1 x (gW hx))
   rwa [dM,nQ (by omega)] at this
  refine WP.loop (WP.has hE (zg rfl (zt rfl (af rfl rfl aT) (by simp; omega) ?_)))
  refine zk 5 rfl (WP.block (zK 3 rfl (zo rfl (dr (r:=.ptr id off) rfl rfl e1) (zl rfl e2 (zk 6 rfl (zo rfl (cJ rfl (by exact iZ Tryz.underlying5 cE (fD (by omega) (by omega)))) ?_))))))
  refine zm rfl (zb rfl (by exact kA (aC (by omega) (by omega))) ?_)
  refine zb rfl (aaM I (by omega)) ?_
  refine zb rfl (or8 bF I (by omega)) ?_
  refine za rfl (zv (zr rfl (zb rfl (by exact br (aC (by omega) (by omega))) ?_)))
  refine zm rfl (zv ?_)
  refine ih (i+1) _ _ (by omega) ?_ hq
  rw [ht,Q_,dM,nQ (by omega)]
  exact ⟨rfl,rfl,rfl,rfl,aa⟩
theorem n4 (J:W told)(s:Sat h S)(hk:getA S k=some X)(hX:cT X (cU v l))(hl:l.length≤8): Call ⟨Tryz.prog,told⟩ 86 [v] h fun r h'=>r=.int .u64 (leN l)∧h'=h:=by
 have hv:=s.aE hk hX
 refine Call.of_wp (J.free _ rfl) Tryz.func86 rfl rfl (zK 12 rfl (zo rfl (aU rfl rfl rfl (a_ aG hv)) (zk 2 rfl (WP.block ?_))))
 refine OK hv hl l.length 0 _ _ (by omega) ⟨rfl,rfl,rfl,rfl,aa⟩ (fun E' I => ?_)
 exact WP.has (F:=[(3,.int .u64 (leN l))]) ⟨I,aa⟩ (zK 5 rfl (WP.ret ⟨aa,_,rfl,rfl,rfl⟩))
theorem Tw (I:W told)(s:Sat h S)(J:getA S k=some X)(hX:cT X (cU v l))(hl:l.length≤4611686018427387904): Call ⟨Tryz.prog,told⟩ 171 [v] h fun r h'=>r=.int .u32 (zH 0 l:Nat)∧h'=h:=by
 refine Call.of_wp (I.free _ rfl) Tryz.func171 rfl rfl (zK 7 rfl (zc rfl (UC (s:=0) I s J hX (by decide) hl) ?_))
 rintro v h' ⟨rfl,rfl⟩
 exact zk 2 rfl (WP.ret ⟨aa,_,rfl,rfl,rfl⟩)
def dn (l:List Nat)(a z:Nat): Nat:=leN ((l.take (a+z)).drop a)
theorem uy (hT:W told){a z:Int}(s:Sat h S)(J:getA S k=some X)(hX:cT X (cU v l))(ha:0≤a)(hz:1≤z)(HS:z≤7)(hl:a+z≤l.length)(jo:l.length≤65536):
  Call ⟨Tryz.prog,told⟩ 154 [.agg [v],.int .i64 a,.int .i64 z] h fun r h'=>r=.int .i64 (dn l a.toNat z.toNat)∧Sat h' S:=by
 have hv:=s.aE J hX
 obtain ⟨pi,po,pc,rfl⟩:=iC hv (by omega)
 refine Call.of_wp (hT.free _ rfl) Tryz.func154 rfl rfl (zg rfl ?_)
 refine aA.b5 s rfl rfl rfl (fe rfl rfl) (fun p3 h s => ?_)
 refine zk 4 rfl (zf rfl (g8 _ _) (zl rfl (s.ld (k:=0) rfl bJ rfl) (zk 3 rfl (zb rfl (by exact br (aC (by omega) (by omega))) ?_))))
 refine zk 2 rfl (zb rfl (by exact br (aC (by omega) (by omega))) ?_)
 have ku:=BD (s.aE (m4 J) hX) (a:=a.toNat) (b:=(a+z).toNat) (c:=(a+z).toNat) (by omega) (by omega) (by omega) (by omega)
 refine zo rfl (cf (p:=some (.int .i64 a)) (q:=some (.int .i64 (a+z))) (m:=some (.int .i64 (a+z))) rfl rfl rfl rfl (dm ha) (dm (by omega)) (dm (by omega)) ku) ?_
 have hlen:((l.take (a+z).toNat).drop a.toNat).length=z.toNat:=by simp; omega
 refine zc rfl (n4 hT s (m4 J) (Fx hX (a:=a.toNat) (b:=(a+z).toNat) (c:=(a+z).toNat) (by omega) (by omega) (by omega) (by omega)) (by omega)) ?_
 rintro r h' ⟨rfl,rfl⟩
 have I:=De ((l.take (a+z).toNat).drop a.toNat) (fun x hx=>hv.1 x (gW (iT hx)))
 have hp:256^z.toNat≤256^7:=sQ (by omega) (by omega)
 rw [hlen] at I
 have e:(a+z).toNat=a.toNat+z.toNat:=by omega
 rw [e] at I ⊢
 refine zo rfl (cJ rfl (by exact iZ cE bD (aC (by omega) (by omega)))) ?_
 exact zk 2 rfl (WP.ret ⟨aa,_,rfl,rfl,s.drop⟩)
theorem zJ {a z:Nat}(I:∀b∈l,b<256): dn l a z<256^z:=by
 have:=De ((l.take (a+z)).drop a) (fun x J=>I x (gW (iT J)))
 have h2:((l.take (a+z)).drop a).length≤z:=by simp; omega
 exact gX this (sQ (by omega) h2)
def kI (l:List Nat): Nat:=dn l 14 2
def iM (l:List Nat): Nat:=dn l 16 2
def dJ (l:List Nat)(i:Nat): Nat:=dn l (26+4*i) 2
def iN (l:List Nat)(i:Nat): Nat:=dn l (26+4*i+2) 2
theorem lC (I:W told)(s:Sat h S)(J:getA S k=some X)(hX:cT X (cU v l))(hl:l.length=512):
  Call ⟨Tryz.prog,told⟩ 101 [.agg [v]] h fun r h'=>r=.int .i64 (kI l)∧Sat h' S:=by
 have hv:=s.aE J hX
 obtain ⟨pi,po,pc,rfl⟩:=iC hv (by omega)
 refine Call.of_wp (I.free _ rfl) Tryz.func101 rfl rfl (zg rfl ?_)
 refine aA.b5 s rfl rfl rfl (fe rfl rfl) (fun p1 h s => ?_)
 refine zk 4 rfl (zl rfl (s.cA (k:=0) rfl cG bL) (zc rfl (uy I s (m4 J) hX (by decide) (by decide) (by decide) (by omega) (by omega)) ?_))
 rintro r h' ⟨rfl,s⟩
 exact zk 2 rfl (WP.ret ⟨aa,_,rfl,rfl,s.drop⟩)
theorem HT (I:W told)(s:Sat h S)(J:getA S k=some X)(hX:cT X (cU v l))(hl:l.length=512):
  Call ⟨Tryz.prog,told⟩ 156 [.agg [v]] h fun r h'=>r=.int .i64 (iM l)∧Sat h' S:=by
 have hv:=s.aE J hX
 obtain ⟨pi,po,pc,rfl⟩:=iC hv (by omega)
 refine Call.of_wp (I.free _ rfl) Tryz.func156 rfl rfl (zg rfl ?_)
 refine aA.b5 s rfl rfl rfl (fe rfl rfl) (fun p1 h s => ?_)
 refine zk 4 rfl (zl rfl (s.cA (k:=0) rfl cG bL) (zc rfl (uy I s (m4 J) hX (by decide) (by decide) (by decide) (by omega) (by omega)) ?_))
 rintro r h' ⟨rfl,s⟩
 exact zk 2 rfl (WP.ret ⟨aa,_,rfl,rfl,s.drop⟩)
end
def fV (t:List Bool): List V:=t.map V.bool
theorem EP (t:List Bool)(k:Nat)(b:Bool): (fV t).set k (.bool b)=fV (t.set k b):=by simp [fV,List.map_set]
theorem KO {t:List Bool}{k:Nat}(I:k<t.length): nth (fV t) k=some (.bool (t.getD k false)):=by
 rw [fF]; simp [fV,bf I]
theorem Ra : zeroT Tryz.prog 227=some (.agg (fV (List.replicate 512 false))):=by kernel_rfl
def markL : Nat→Nat→List Bool→Option (List Bool)
 | 0,_,t=>some t
 | n+1,k,t=>if t.getD k false then none else markL n (k+1) (t.set k true)
def cellsL (l:List Nat)(low:Nat): Nat→Nat→List Bool→Bool
 | 0,_,_=>true
 | n+1,i,t=>if dJ l i<low∨512<dJ l i+iN l i then false else match markL (iN l i) (dJ l i) t with
  | none=>false
  | some t'=>cellsL l low n (i+1) t'
def b7 (l:List Nat): Bool:=decide (l.length=512)&&(decide (l.getD 13 0=0)&&(decide (26+4*kI l≤iM l∧iM l≤512)&&cellsL l (iM l) (kI l) 0 (List.replicate 512 false)))
theorem OL : ∀(n k:Nat) (t t':List Bool),markL n k t=some t'→t'.length=t.length:=by
 intro n
 induction n with
 | zero=>intro k t t' h; simp only [markL] at h; injection h with h; subst h; rfl
 | succ n I =>
  intro k t t' h
  simp only [markL] at h
  split at h
  ·cases h
  ·have:=I _ _ _ h; simpa using this
section
variable {told:cQ} {h:H} {S:List au} {X:au} {k:Nat} {v:V} {l:List Nat}
theorem A8 (I:W told){i:Nat}(s:Sat h S)(J:getA S k=some X)(hX:cT X (cU v l))(hl:l.length=512)(hi:30+4*i≤512):
  Call ⟨Tryz.prog,told⟩ 155 [.agg [v],.int .i64 (i:Int)] h fun r h'=>r=.bj [.int .i64 (dJ l i),.int .i64 (iN l i)]∧Sat h' S:=by
 have hv:=s.aE J hX
 obtain ⟨pi,po,pc,rfl⟩:=iC hv (by omega)
 have e1:(26+4*(i:Int)).toNat=26+4*i:=by omega
 have e2:(26+4*(i:Int)+2).toNat=26+4*i+2:=by omega
 refine Call.of_wp (I.free _ rfl) Tryz.func155 rfl rfl (zg rfl ?_)
 refine aA.b5 s rfl rfl rfl (fe rfl rfl) (fun p2 h s => ?_)
 refine zk 6 rfl (zb rfl (by exact kA (aC (by omega) (by omega))) ?_)
 refine zb rfl (by exact br (aC (by omega) (by omega))) ?_
 refine zk 3 rfl ?_
 have s0:=s
 refine WP.drawn [ai,ai,ai,some (0,2),some (0,2),some (0,2),ai,ai,ai] rfl (by kernel_rfl) (by kernel_rfl) ?_
 refine zL rfl (s.cA (k:=0) rfl cG bL) (zM rfl (aB.any rfl rfl rfl rfl (OpR.call rfl rfl rfl rfl (uy I s (m4 J) hX (by omega) (by decide) (by decide) (by omega) (by omega))) ?_))
 rintro r h' ⟨rfl,s⟩
 rw [e1]
 have s1:=s
 refine zL rfl (s.cA (k:=0) rfl cG bL) (zM rfl (zO rfl (af rfl rfl (by exact br (aC (by omega) (by omega)))) ?_))
 refine aB.any rfl rfl rfl rfl (OpR.call rfl rfl rfl rfl (uy I s (m4 J) hX (by omega) (by decide) (by decide) (by omega) (by omega))) ?_
 rintro r h' ⟨rfl,s⟩
 rw [e2]
 refine zA rfl (zA rfl ?_)
 refine aB.nil ⟨⟨aa,aa,aa,dW (.inr ⟨rfl,⟨_,bh rfl (s0.cA (k:=0) rfl cG bL)⟩,bq _ rfl⟩) (.inr ⟨rfl,⟨_,bh rfl (s1.cA (k:=0) rfl cG bL)⟩,bq _ rfl⟩),fun _ _=>.inr ⟨rfl,⟨_,bz rfl⟩,bq _ rfl⟩,fun _ _=>.inr ⟨rfl,⟨_,af rfl rfl (by exact br (aC (by omega) (by omega)))⟩,bq _ rfl⟩,aa,aa,aa,aa⟩,?_⟩
 refine WP.ret ⟨aa,_,rfl,?_⟩
 exact ⟨rfl,s.drop⟩
noncomputable def gdO : Code:=dB [1,1,1,1,1,1,0,1,0,0] ((Tryz.f107.body).getD .skip)
noncomputable def gdI : Code:=dB [1,1,1,1,1,1,0,1,0,0,1,1,0,0,1,1,1,1,0,0] ((Tryz.f107.body).getD .skip)
theorem Mq {p6 a z:Nat}{v3 v4 v5 v35 v36:V}(haz:a+z≤512): ∀(m q:Nat) (t:List Bool) (h:H) (E:List (Nat×V)) (Q:Ex→List (Nat×V)→H→Prop),q+m=a+z→t.length=512 →
  Sat h (pt p6 (.cells 512 (fV t) false)::S)→Has E [(3,v3),(4,v4),(5,v5),(6,.ptr p6 0),(8,.int .i64 (a:Int)),(9,.int .i64 (z:Int)),(10,.int .i64 (q:Int)),(35,v35),(36,v36)] →
  (markL m q t=none→∀E' h',look E' 2=some (.bool false)→Sat h' S→Q .ret E' h') →
  (∀t' E' h',markL m q t=some t'→Has E' [(3,v3),(4,v4),(5,v5),(6,.ptr p6 0),(35,v35),(36,v36)]→Sat h' (pt p6 (.cells 512 (fV t') false)::S)→Q (.exit 2) E' h') →
  WP ⟨Tryz.prog,told⟩ 68 (.loop gdI) E h Q:=by
 intro m
 induction m with
 | zero =>
  intro q t h E Q hq ht s hE J hx
  refine WP.loop (WP.has hE (zK 6 rfl (zb rfl (by exact br (aC (by omega) (by omega))) ?_)))
  refine zh rfl (af rfl rfl aT) (by simp; omega) ?_
  exact zk 2 rfl (WP.exit (hx t _ _ rfl ⟨rfl,rfl,rfl,rfl,rfl,rfl,aa⟩ s))
 | succ m ih =>
  intro q t h E Q hq ht s hE J hx
  have I:q<t.length:=by omega
  refine WP.loop (WP.has hE (zK 6 rfl (zb rfl (by exact br (aC (by omega) (by omega))) ?_)))
  refine zt rfl (af rfl rfl aT) (by simp; omega) ?_
  refine zk 4 rfl (WP.block (zK 4 rfl (zo rfl (dr (r:=.ptr p6 q) rfl rfl (by rw [Tm,show (decide ((0:Int)≤(q:Int))&&decide ((q:Int)<((512:Nat):Int)))=true by simp; omega,ag]; simp)) ?_)))
  cases hm:t.getD q false with
  | true =>
   refine zt rfl (bh rfl (s.ld (k:=0) rfl kX (KO I))) (hm) (zk 6 rfl (WP.ret ?_))
   refine J ?_ _ _ rfl s.drop
   rw [markL,aj hm]
  | false =>
   refine zh rfl (bh rfl (s.ld (k:=0) rfl kX (KO I))) (hm) (zk 5 rfl (zo rfl (dr (r:=.ptr p6 q) rfl rfl (by rw [Tm,show (decide ((0:Int)≤(q:Int))&&decide ((q:Int)<((512:Nat):Int)))=true by simp; omega,ag]; simp)) ?_))
   refine zS rfl (s.ey (k:=0) rfl uf (by simp [fV,ht]) (by omega) rfl rfl) ?_
   intro h s
   dsimp only [setA] at s
   rw [EP] at s
   refine zv (zr rfl (zm rfl (zb rfl (by exact br (aC (by omega) (by omega))) ?_)))
   refine za rfl (zv ?_)
   have e:markL (m+1) q t=markL m (q+1) (t.set q true):=by rw [markL,ah (by rw [hm]; decide)]
   rw [e] at J hx
   exact ih (q+1) (t.set q true) h _ Q (by omega) (by simp [ht]) s ⟨rfl,rfl,rfl,rfl,rfl,rfl,rfl,rfl,rfl,aa⟩ J hx
theorem Mr (hT:W told){p6 p3:Nat}{n low:Nat}{x:V}(hX:cT X (cU x l))(hl:l.length=512)(bF:∀b∈l,b<256)(yS:x.cells=[x])(hx2:storable x=true)(hn:n=kI l)(uz:26+4*n≤low)(abZ:low≤512): ∀(m i:Nat) (t:List Bool) (h:H) (E:List (Nat×V)) (Q:Ex→List (Nat×V)→H→Prop),i+m=n→t.length=512 →
  Sat h (pt p6 (.cells 512 (fV t) false)::pt p3 (.cells 1 [x] false)::X::S)→Has E [(3,.ptr p3 0),(4,.int .i64 (n:Int)),(5,.int .i64 (low:Int)),(6,.ptr p6 0),(35,.int .i64 (n:Int)),(36,.int .i64 (i:Int))] →
  (cellsL l low m i t=false→∀E' h',look E' 2=some (.bool false)→Sat h' (X::S)→Q .ret E' h') →
  (cellsL l low m i t=true→∀E' h',Sat h' (X::S)→Q (.exit 0) E' h') →
  WP ⟨Tryz.prog,told⟩ 68 (.loop gdO) E h Q:=by
 intro m
 induction m with
 | zero =>
  intro i t h E Q hi ht s hE J hx
  refine WP.loop (WP.has hE (zg rfl (zh rfl (af rfl rfl aT) (by simp; omega) ?_)))
  exact zk 3 rfl (WP.exit (hx rfl _ _ s.drop.drop))
 | succ m ih =>
  intro i t h E Q hi ht s hE J hx
  have hf:=zJ (l:=l) (a:=26+4*i) (z:=2) bF
  have hz:=zJ (l:=l) (a:=26+4*i+2) (z:=2) bF
  have ef:dJ l i=dn l (26+4*i) 2:=rfl
  have ez:iN l i=dn l (26+4*i+2) 2:=rfl
  refine WP.loop (WP.has hE (zg rfl (zt rfl (af rfl rfl aT) (by simp; omega) ?_)))
  refine zk 5 rfl (WP.block (zK 7 rfl (zl rfl (s.cA (k:=1) rfl cG bL) (zm rfl (zc rfl (A8 (i:=i) hT s (k:=2) rfl hX hl (by omega)) ?_)))))
  rintro r h' ⟨rfl,s⟩
  refine zk 11 rfl ?_
  refine zd rfl (af rfl rfl aT) ?_ ?_
  ·intro hq
   have hq:dJ l i<low:=by simp at hq; omega
   refine zk 12 rfl (WP.ret ?_)
   refine J ?_ _ _ rfl s.drop.drop
   rw [cellsL,aj (.inl hq)]
  ·intro hq
   have hq:low≤dJ l i:=by simp at hq; omega
   refine zk 3 rfl (zb rfl (by exact br (aC (by omega) (by omega))) ?_)
   refine zd rfl (af rfl rfl gv) ?_ ?_
   ·intro I
    have I:512<dJ l i+iN l i:=by simp at I; omega
    refine zk 7 rfl (WP.ret ?_)
    refine J ?_ _ _ rfl s.drop.drop
    rw [cellsL,aj (.inr I)]
   ·intro I
    have I:dJ l i+iN l i≤512:=by simp at I; omega
    refine zk 9 rfl (WP.block ?_)
    have e:cellsL l low (m+1) i t=(match markL (iN l i) (dJ l i) t with | none=>false | some t'=>cellsL l low m (i+1) t'):=by rw [cellsL,ah (by omega)]
    rw [e] at J hx
    refine Mq I (iN l i) (dJ l i) t _ _ _ rfl ht s ⟨rfl,rfl,rfl,rfl,rfl,rfl,rfl,rfl,rfl,aa⟩ (fun hm E' h' h2 s' => ?_) (fun t' E' h' hm jd s' => ?_)
    ·rw [hm] at J
     exact J rfl _ _ h2 s'.drop
    ·rw [hm] at J hx
     refine WP.has jd (zr rfl (zb rfl (by exact br (aC (by omega) (by omega))) ?_))
     refine zm rfl (zv ?_)
     exact ih (i+1) t' h' _ Q (by omega) (by rw [OL _ _ _ _ hm,ht]) s' ⟨rfl,rfl,rfl,rfl,rfl,rfl,aa⟩ J hx
theorem KP (hT:W told)(s:Sat h (X::S))(hX:cT X (cU v l))(jo:l.length<9223372036854775808):
  Call ⟨Tryz.prog,told⟩ 107 [v] h fun r h'=>r=.bool (b7 l)∧Sat h' (X::S):=by
 have hv:=s.aE (k:=0) rfl hX
 refine Call.of_wp (hT.free _ rfl) Tryz.func107 rfl rfl (zK 8 rfl (zo rfl (aU rfl rfl rfl (a_ aG (s.aE (k:=0) rfl hX))) ?_))
 refine zd rfl (af rfl rfl aN) ?_ ?_
 ·intro hq
  have hq:l.length≠512:=by simp at hq; omega
  exact zk 12 rfl (WP.ret ⟨aa,_,rfl,by rw [b7,eU hq,gZ],s⟩)
 ·intro hq
  have hq:l.length=512:=by simp at hq; omega
  have hb:l[13]?=some (l[13]'(by omega)):=bf _
  generalize Kt:(l[13]'(by omega))=b at hb
  have qx:l.getD 13 0=b:=by rw [dU,hb]; rfl
  obtain ⟨id,off,e1,e2⟩:=eP hv hb
  refine zk 2 rfl (zo rfl (dr (r:=.ptr id off) rfl rfl e1) (zl rfl e2 ?_))
  refine zd rfl (af rfl rfl aN) ?_ ?_
  ·intro I
   have I:b≠0:=by simp at I; omega
   exact zk 7 rfl (WP.ret ⟨aa,_,rfl,by rw [b7,fo hq,qx,eU I,gZ,AA],s⟩)
  ·intro I
   have I:b=0:=by simp at I; omega
   obtain ⟨pi,po,pc,rfl⟩:=iC hv (by omega)
   refine zk 7 rfl (zo rfl (c_ rfl (by rw [AX]; rfl)) ?_)
   refine aA.b5 s rfl rfl rfl (bX j7) (fun p3 h s => ?_)
   refine zS rfl (s.eH (j:=0) rfl bL rfl rfl) (fun h s => ?_)
   refine zk 2 rfl ?_
   have s0:=s
   refine WP.drawn [none,none,some (0,2),ai,ai,ai] rfl (by kernel_rfl) (by kernel_rfl) ?_
   refine zL rfl (s.cA (k:=0) rfl cG bL) (aB.any rfl rfl rfl rfl (OpR.call rfl rfl rfl rfl (lC hT s (k:=1) rfl hX hq)) ?_)
   rintro r h' ⟨rfl,s⟩
   have s1:=s
   refine zL rfl (s.cA (k:=0) rfl cG bL) (aB.any rfl rfl rfl rfl (OpR.call rfl rfl rfl rfl (HT hT s (k:=1) rfl hX hq)) ?_)
   rintro r h' ⟨rfl,s⟩
   refine zA rfl (zA rfl ?_)
   refine aB.nil ⟨⟨aa,aa,dW (.inr ⟨rfl,⟨_,bh rfl (s0.cA (k:=0) rfl cG bL)⟩,bq _ rfl⟩) (.inr ⟨rfl,⟨_,bh rfl (s1.cA (k:=0) rfl cG bL)⟩,bq _ rfl⟩),aa,aa,aa,aa⟩,?_⟩
   have yI:=zJ (l:=l) (a:=14) (z:=2) hv.1
   have rQ:=zJ (l:=l) (a:=16) (z:=2) hv.1
   have ec:kI l=dn l 14 2:=rfl
   have el:iM l=dn l 16 2:=rfl
   refine zK 4 rfl (zb rfl (by exact kA (aC (by omega) (by omega))) ?_)
   refine zb rfl (by exact br (aC (by omega) (by omega))) ?_
   refine zm rfl ?_
   refine zd rfl (af rfl rfl gv) ?_ ?_
   ·intro J
    have J:iM l<26+4*kI l:=by simp at J; omega
    exact zk 10 rfl (WP.ret ⟨aa,_,rfl,by rw [b7,fo hq,qx,fo I,eU (by omega:¬(26+4*kI l≤iM l∧iM l≤512))]; rfl,s.drop⟩)
   ·intro J
    have J:26+4*kI l≤iM l:=by simp at J; omega
    refine zk 2 rfl ?_
    refine zd rfl (af rfl rfl gv) ?_ ?_
    ·intro pJ
     have pJ:512<iM l:=by simp at pJ; omega
     exact zk 7 rfl (WP.ret ⟨aa,_,rfl,by rw [b7,fo hq,qx,fo I,eU (by omega:¬(26+4*kI l≤iM l∧iM l≤512))]; rfl,s.drop⟩)
    ·intro pJ
     have pJ:iM l≤512:=by simp at pJ; omega
     refine zk 6 rfl (aA.b5 s rfl rfl rfl (bX Ra) ?_)
     intro p6 h s
     have sx:(fV (List.replicate 512 false)).length=512:=by rw [fV,fS,cY]
     dsimp only [V.cells] at s
     rw [sx] at s
     refine zk 7 rfl (WP.block ?_)
     have hg:b7 l=cellsL l (iM l) (kI l) 0 (List.replicate 512 false):=by
      rw [b7,fo hq,qx,fo I,fo (⟨J,pJ⟩:26+4*kI l≤iM l∧iM l≤512)]; rfl
     refine Mr hT hX hq hv.1 rfl rfl rfl J pJ (kI l) 0 (List.replicate 512 false) _ _ _ (by omega) cY s ⟨rfl,rfl,rfl,rfl,rfl,rfl,aa⟩ (fun hc E' h' h2 s' => ?_) (fun hc E' h' s' => ?_)
     ·rw [hg,hc]
      exact ⟨aa,_,ue h2,rfl,s'⟩
     ·rw [hg,hc]
      exact WP.has (F:=[]) aa (zK 4 rfl (WP.ret ⟨aa,_,rfl,rfl,s'⟩))
end
end Go.Proofs.YtefepnnfphdkpaaGreat.Am
