/- SpaceRoots: a part of its proof; conditions: its statement's. -/
import Derived.Test.YtefepnnfphdkpaaGreatF29
namespace Go.Proofs.YtefepnnfphdkpaaGreat.Am
open Go
section
variable {told:cQ} {h:H} {S:List au} {X Y:au} {k:Nat} {v x:V} {b l c:List Nat} {kd link extra:Nat} {cs:List (List Nat)}
theorem F0 (J:W told){kd:Nat}(s:Sat h S)(TG:kd≤255):
  Call ⟨Tryz.prog,told⟩ 46 [.int .i64 (kd:Int)] h fun r h'=>∃u,r=.bj [u,.int .i64 0]∧Sat h' (aZ u (vD kd)::S):=by
 refine Call.of_wp (J.free _ rfl) Tryz.func46 rfl rfl (zK 9 rfl (zh rfl (af rfl rfl aT) (by simp) ?_))
 refine zk 2 rfl (zh rfl (af rfl rfl gv) (by simp; omega) ?_)
 refine zk 6 rfl (aA.any rfl rfl rfl (OpR.rJ rfl s rfl rfl rfl rfl (by decide)) ?_)
 intro u h s
 have hl:(List.replicate 512 0).length=512:=cY
 have hn:vD kd=aV ((List.replicate 512 0).set 12 kd) 16 (le 2 512):=rfl
 generalize List.replicate 512 0=l at hl hn s
 obtain ⟨qw,_,cap,_,rfl,_⟩:=s.fI (by omega)
 refine zo rfl (c_ rfl (by rw [AX]; rfl)) ?_
 refine aA.b5 s rfl rfl rfl (bX j7) (fun p4 h s => ?_)
 refine zS rfl (s.eH (j:=0) rfl bL rfl rfl) (fun h s => ?_)
 refine zk 3 rfl (zf rfl (g8 _ _) (zl rfl (s.ld (k:=0) rfl bJ rfl) (zm rfl (zo rfl (cJ rfl (by exact iZ bD Tryz.underlying5 (C1 (by omega) (by omega)))) ?_))))
 have s:=s.ae [1,0]
 obtain ⟨kZ,I,e3,h2,e4,s2⟩:=oE s (i:=12) (b:=kd) (by omega) (by omega)
 have jo:(l.set 12 kd).length=512:=by rw [bW,hl]
 refine zo rfl (dr (r:=.ptr kZ I) rfl rfl e3) (zS rfl (⟨h2,e4,s2⟩) ?_)
 rintro h s
 have s:=s.ae [1,0]
 refine zk 3 rfl (zl rfl (s.cA (k:=0) rfl cG bL) (zc rfl (qg (a:=16) (z:=2) (n:=512) J (s.ae [1]) (by decide) (by decide) (by omega) (by omega)) ?_))
 rintro r h ⟨rfl,s⟩
 have s:=s.ae [1,0]
 refine zk 3 rfl (zf rfl (g8 _ _) (zl rfl (s.ld (k:=0) rfl bJ rfl) (zk 3 rfl (WP.ret ⟨aa,_,rfl,?_⟩))))
 refine ⟨_,rfl,?_⟩
 rw [hn]
 exact s.drop
theorem RR (J:W told){kd:Nat}(s:Sat h S)(I:kd≤255):
  Call ⟨Tryz.prog,told⟩ 46 [.int .i64 (kd:Int)] h fun r h'=>∃u b,r=.bj [u,.int .i64 0]∧dX b kd 0 0 []∧Sat h' (aZ u b::S) :=
 (F0 J s I).mono fun r h' ⟨u,e,s⟩=>⟨u,_,e,dX.new (k:=kd),s⟩
theorem U5 (I:W told){lk ex:Nat}(s:Sat h (X::S))(hX:cT X (cU v b))(J:dX b kd link extra cs)(Xt:lk<4294967296)(hex:ex<4294967296):
  Call ⟨Tryz.prog,told⟩ 47 [v,.int .i64 (lk:Int),.int .i64 (ex:Int)] h fun r h'=>∃u b',r=.bj [u,.int .i64 0]∧dX b' kd lk ex cs∧Sat h' (aZ u b'::X::S):=by
 have hl:=J.len
 have hle:∀n,(le 4 n).length=4:=fun n=>cy 4 n
 have l1:(aV b 18 (le 4 lk)).length=512:=by rw [cz (by rw [hle]; omega),hl]
 refine Call.of_wp (I.free _ rfl) Tryz.func47 rfl rfl (zK 8 rfl (zc rfl (va I s hX (by omega)) ?_))
 rintro r h' (⟨hg,u,rfl,s⟩ | ⟨hg,rfl,s⟩)
 ·obtain ⟨qw,_,cap,_,rfl,_⟩:=s.fI (by omega)
  refine zk 3 rfl ?_
  refine aA.b5 s rfl rfl rfl (bX j7) (fun p8 h s => ?_)
  dsimp only [V.cells,List.length_cons,List.length_nil,Nat.reduceAdd] at s
  refine zS rfl (s.eH (j:=0) rfl bL rfl rfl) (fun h s => ?_)
  dsimp only [setA] at s
  refine zk 3 rfl (WP.block (zK 3 rfl (zh rfl (af rfl rfl aN) (rfl) (zk 6 rfl (zh rfl (af rfl rfl aT) (by simp) ?_)))))
  refine zk 2 rfl (zh rfl (af rfl rfl gv) (by simp; omega) ?_)
  refine zk 3 rfl (zh rfl (af rfl rfl aT) (by simp) ?_)
  refine zk 3 rfl (zh rfl (af rfl rfl gv) (by simp; omega) ?_)
  refine zk 2 rfl (zv (zj rfl (WP.skip (zg rfl (zl rfl (by exact s.cA (k:=0) rfl cG bL) ?_)))))
  refine zm rfl (zo rfl (cJ rfl (by exact iZ bD cE (fD (by omega) (by omega)))) ?_)
  refine zc rfl (qg (a:=18) (z:=4) (n:=lk) I (s.ae [1]) (by decide) (by decide) (by omega) (by omega)) ?_
  rintro r h' ⟨rfl,s⟩
  have s:=s.ae [1,0]
  refine zk 3 rfl (zl rfl (s.cA (k:=0) rfl cG bL) (zm rfl (zo rfl (cJ rfl (by exact iZ bD cE (fD (by omega) (by omega)))) ?_)))
  refine zc rfl (qg (a:=22) (z:=4) (n:=ex) I (s.ae [1]) (by decide) (by decide) (by omega) (by omega)) ?_
  rintro r h' ⟨rfl,s⟩
  have s:=s.ae [1,0]
  exact zk 3 rfl (zf rfl (g8 _ _) (zl rfl (s.ld (k:=0) rfl bJ rfl) (zk 3 rfl (WP.ret ⟨aa,_,rfl,_,_,rfl,J.set Xt hex,s.drop⟩))))
 ·rw [J.good] at hg; cases hg
theorem Ad (J:W told)(s:Sat h (X::S))(I:cT X (cU v l))(hl:l.length<1073741824):
  Call ⟨Tryz.prog,told⟩ 160 [v] h fun r h'=>Sat h' (aZ r l::X::S):=by
 have hv:=s.aE (k:=0) rfl I
 refine Call.of_wp (J.free _ rfl) Tryz.func160 rfl rfl (zK 7 rfl (zo rfl (aU rfl rfl rfl (a_ aG (s.aE (k:=0) rfl I))) (aA.any rfl rfl rfl (OpR.uq rfl s rfl rfl rfl rfl (by omega)) ?_)))
 intro u h s
 refine zm rfl (aA.any rfl rfl rfl (OpR.ru rfl s I rfl rfl rfl rfl (by simp; omega)) ?_)
 intro u2 h s
 rw [cZ] at s
 exact zk 2 rfl (WP.ret ⟨aa,_,rfl,s⟩)
theorem RT (I:W told){i:Nat}(s:Sat h (X::S))(hX:cT X (cU v b))(J:dX b kd link extra cs)(hc:cs[i]?=some c):
  Call ⟨Tryz.prog,told⟩ 111 [v,.int .i64 (i:Int)] h fun r h'=>∃u,r=.bj [u,.int .i64 0]∧Sat h' (aZ u c::X::S):=by
 have hl:=J.len
 have hv:=s.aE (k:=0) rfl hX
 have hi:=(List.getElem?_eq_some_iff.1 hc).1
 have dZ:=J.fits
 have BH:=nL (cs:=cs) (i:=i+1)
 have Pj:=nK hc
 obtain ⟨pi,po,pc,rfl⟩:=iC hv (by omega)
 refine Call.of_wp (I.free _ rfl) Tryz.func111 rfl rfl (zK 8 rfl (zc rfl (uA I s hX (by omega)) ?_))
 rintro r h' ⟨s,(⟨hg,rfl⟩ | ⟨hg,rfl⟩)⟩
 ·refine aA.op rfl rfl rfl (bz rfl) ?_
  refine zk 2 rfl ?_
  refine aA.b5 s rfl rfl rfl (bX j7) (fun p6 h s => ?_)
  dsimp only [V.cells,List.length_cons,List.length_nil,Nat.reduceAdd] at s
  refine zS rfl (s.eH (j:=0) rfl bL rfl rfl) (fun h s => ?_)
  dsimp only [setA] at s
  refine zk 3 rfl (WP.block (zK 3 rfl (zh rfl (af rfl rfl aN) (rfl) (zk 6 rfl (zh rfl (af rfl rfl aT) (by simp) ?_)))))
  refine zk 2 rfl (zl rfl (s.cA (k:=0) rfl cG bL) (zc rfl (lC I s (k:=1) rfl hX hl) ?_))
  rintro r h' ⟨rfl,s⟩
  rw [J.c8]
  refine zh rfl (af rfl rfl mG) (by simp; omega) ?_
  refine zk 2 rfl (zv (zj rfl (WP.skip (zg rfl (zl rfl (by exact s.cA (k:=0) rfl cG bL) ?_)))))
  refine zm rfl (zc rfl (E4 (i:=i) I s (k:=1) rfl hX J hc) ?_)
  rintro r h' ⟨f,rfl,hr,s⟩
  refine zc rfl (Ad I (s.ae [1]) hr (by omega)) ?_
  intro u h s
  exact zk 3 rfl (WP.ret ⟨aa,_,rfl,_,rfl,s.del 2⟩)
 ·rw [J.good] at hg; cases hg
end
theorem RU : ∃i,Tryz.prog.info? 28=some i∧i.size=1∧i.bytes=24 :=
 ⟨_,(show Tryz.prog.info? 28=some ((Tryz.prog.info? 28).getD default) by kernel_rfl),by kernel_rfl,by kernel_rfl⟩
section
variable {told:cQ} {h:H} {S:List au} {X Y:au} {k:Nat} {v x:V} {b l c c':List Nat} {kd link extra:Nat} {cs:List (List Nat)}
theorem U6 (I:W told)(s:Sat h (X::Y::S))(hX:cT X (cU v b))(hY:cT Y (cU x c))(hp:dX b kd link extra cs)(hf:26+4*(cs.length+1)+(tot cs+c.length)≤512):
  Call ⟨Tryz.prog,told⟩ 48 [v,.int .i64 (cs.length:Int),x] h fun r h'=>∃u b',r=.bj [u,.int .i64 0]∧dX b' kd link extra (cs++[c])∧Sat h' (aZ u b'::X::Y::S):=by
 have hl:=hp.len
 have uz:=hp.low
 have hle:∀n,(le 2 n).length=2:=fun n=>cy 2 n
 generalize hn:cs.length=n at hf
 have J:=hp.c8
 have uO:∃lo,lo+(tot cs+c.length)=512:=⟨512-(tot cs+c.length),by omega⟩
 obtain ⟨lo,uO⟩:=uO
 have l1:(aV b 14 (le 2 (n+1))).length=512:=by rw [cz (by rw [hle]; omega),hl]
 have jo:iM (aV b 14 (le 2 (n+1)))=lo+c.length:=by
  have:iM (aV b 14 (le 2 (n+1)))=iM b:=Bc (by rw [hle]; omega) (by rw [hle]; omega)
  rw [this]; omega
 refine Call.of_wp (I.free _ rfl) Tryz.func48 rfl rfl (zK 8 rfl (zc rfl (va I s hX (by omega)) ?_))
 rintro r h' (⟨hg,u,rfl,s⟩ | ⟨hg,rfl,s⟩)
 ·obtain ⟨qw,_,cap,_,rfl,_⟩:=s.fI (by omega)
  refine zk 3 rfl ?_
  refine aA.b5 s rfl rfl rfl (bX j7) (fun p8 h s => ?_)
  dsimp only [V.cells,List.length_cons,List.length_nil,Nat.reduceAdd] at s
  refine zS rfl (s.eH (j:=0) rfl bL rfl rfl) (fun h s => ?_)
  dsimp only [setA] at s
  refine zk 3 rfl (WP.block (zK 3 rfl (zh rfl (af rfl rfl aN) (rfl) (zk 6 rfl (zh rfl (af rfl rfl aT) (by simp) ?_)))))
  refine zk 2 rfl (zl rfl (s.cA (k:=0) rfl cG bL) (zc rfl (lC I s (k:=1) rfl (bg _ _) hl) ?_))
  rintro r h' ⟨rfl,s⟩
  rw [J,hn]
  refine zh rfl (af rfl rfl gv) (by simp) ?_
  refine zk 6 rfl (zl rfl (s.cA (k:=0) rfl cG bL) (zc rfl (RP I (s.ae [1]) (bg _ _) hp) ?_))
  rintro r h' ⟨rfl,s⟩
  have s:=s.ae [1,0]
  dsimp only [aQ,bringA,getA] at s
  rw [hn]
  refine zm rfl (zo rfl (aU rfl rfl rfl (a_ aG (s.aE (k:=3) rfl hY))) (zb rfl (by exact br (aC (by omega) (by omega))) ?_))
  refine zh rfl (af rfl rfl aT) (by simp; omega) ?_
  refine za rfl (zv (zj rfl (WP.skip (zw (zg rfl (zl rfl (by exact s.cA (k:=0) rfl cG bL) ?_))))))
  refine zc rfl (U4 I s (k:=1) rfl (bg _ _) hp) ?_
  rintro r h' ⟨rfl,s⟩
  rw [hn]
  refine zm rfl (zo rfl (aU rfl rfl rfl (a_ aG (s.aE (k:=3) rfl hY))) (zb rfl (by exact br (aC (by omega) (by omega))) ?_))
  refine zh rfl (af rfl rfl aT) (by simp; omega) ?_
  refine zv (zj rfl (WP.skip (zg rfl (zl rfl (by exact s.cA (k:=0) rfl cG bL) ?_))))
  refine zc rfl (lC I s (k:=1) rfl (bg _ _) hl) ?_
  rintro r h' ⟨rfl,s⟩
  rw [J,hn]
  refine zk 3 rfl ?_
  have q1:((26:Int)+4*((n:Int)+1)).toNat=30+4*n:=by omega
  have q2:((26:Int)+4*(n:Int)).toNat=26+4*n:=by omega
  have s0:=s
  refine WP.drawn [ai,ai,ai,ai,ai,ai,ai,ai,ai,ai,ai,ai,ai,ai,ai,ai,ai,ai,ai,ai,ai] rfl (by kernel_rfl) (by kernel_rfl) ?_
  refine zF rfl (g8 _ _) (zL rfl (s.ld (k:=0) rfl bJ rfl) (zM rfl (zO rfl (af rfl rfl (by exact br (aC (by omega) (by omega)))) ?_)))
  refine zO rfl (af rfl rfl (by exact kA (aC (by omega) (by omega)))) ?_
  refine zO rfl (af rfl rfl (by exact br (aC (by omega) (by omega)))) ?_
  refine zM rfl (zO rfl (af rfl rfl (by exact br (aC (by omega) (by omega)))) ?_)
  refine zO rfl (af rfl rfl (by exact kA (aC (by omega) (by omega)))) ?_
  refine zO rfl (af rfl rfl (by exact br (aC (by omega) (by omega)))) ?_
  refine zO rfl (cf (p:=some (.int .i64 (26+4*((n:Int)+1)))) (q:=some (.int .i64 (26+4*((n:Int)+1)))) (m:=none) (p':=some (30+4*n)) (q':=some (30+4*n)) (m':=none) rfl rfl rfl rfl (by rw [dm (by omega),q1]) (by rw [dm (by omega),q1]) rfl (er (s.buf (k:=1) rfl).view (aD _) (by omega)).1) ?_
  refine zF rfl (g8 _ _) (zL rfl (s.ld (k:=0) rfl bJ rfl) (zM rfl (zO rfl (af rfl rfl (by exact kA (aC (by omega) (by omega)))) ?_)))
  refine zO rfl (af rfl rfl (by exact br (aC (by omega) (by omega)))) ?_
  refine zM rfl (zO rfl (af rfl rfl (by exact kA (aC (by omega) (by omega)))) ?_)
  refine zO rfl (af rfl rfl (by exact br (aC (by omega) (by omega)))) ?_
  refine zO rfl (cf (p:=some (.int .i64 (26+4*(n:Int)))) (q:=some (.int .i64 (26+4*(n:Int)))) (m:=none) (p':=some (26+4*n)) (q':=some (26+4*n)) (m':=none) rfl rfl rfl rfl (by rw [dm (by omega),q2]) (by rw [dm (by omega),q2]) rfl (er (s.buf (k:=1) rfl).view (aD _) (by omega)).1) ?_
  refine aB.any rfl rfl rfl rfl (OpR.Y4 rfl (s.ae [1]) rfl rfl rfl rfl (by omega) (by omega) (by omega)) ?_
  intro r h s
  have s:=s.ae [1,0]
  refine aB.nil ⟨⟨aa,aa,aa,aa,aa,aa,aa,aa,aa,aa,aa,aa,aa,aa,aa,aa,aa,aa,aa,aa,aa,aa⟩,?_⟩
  refine zg rfl (zl rfl (s.cA (k:=0) rfl cG bL) (zm rfl (zb rfl (by exact br (aC (by omega) (by omega))) ?_)))
  refine zo rfl (cJ rfl (by exact iZ bD cE (fD (by omega) (by omega)))) ?_
  have en:(n:Int)+1=((n+1:Nat):Int):=by omega
  rw [en]
  refine zc rfl (qg (a:=14) (z:=2) (n:=n+1) I (s.ae [1]) (by decide) (by decide) (by omega) (by omega)) ?_
  rintro r h ⟨rfl,s⟩
  have s:=s.ae [1,0]
  refine zk 3 rfl (zl rfl (s.cA (k:=0) rfl cG bL) (zk 2 rfl (zc rfl (RQ (i:=n) (lo:=lo) I (s.ae [1,2]) hY l1 (by omega) jo (by omega)) ?_)))
  rintro r h ⟨rfl,s⟩
  have s:=s.ae [2,0,1,0]
  refine zk 3 rfl (zf rfl (g8 _ _) (zl rfl (s.ld (k:=0) rfl bJ rfl) (zk 3 rfl (WP.ret ⟨aa,_,rfl,?_⟩))))
  subst hn
  exact ⟨_,_,rfl,hp.ins hf uO,s.drop⟩
 ·rw [hp.good] at hg; cases hg
theorem E5 (hT:W told){i:Nat}(s:Sat h (X::Y::S))(hX:cT X (cU v b))(hY:cT Y (cU x c'))(J:dX b kd link extra cs)(hc:cs[i]?=some c)(La:c'.length=c.length):
  Call ⟨Tryz.prog,told⟩ 110 [v,.int .i64 (i:Int),x] h fun r h'=>∃u b',r=.bj [u,.int .i64 0]∧dX b' kd link extra (cs.set i c')∧Sat h' (aZ u b'::X::Y::S):=by
 have hl:=J.len
 have uz:=J.low
 have dZ:=J.fits
 have hi:=(List.getElem?_eq_some_iff.1 hc).1
 have BH:=nL (cs:=cs) (i:=i+1)
 have Pj:=nK hc
 have I:=J.rep hc La
 obtain ⟨s1,s2,s3⟩:=J.slot i c hc
 generalize hf:dJ b i=f at s1 s3 I
 have l1:(aV b f c').length=512:=by rw [cz (by omega),hl]
 refine Call.of_wp (hT.free _ rfl) Tryz.func110 rfl rfl (zK 8 rfl (zc rfl (va hT s hX (by omega)) ?_))
 rintro r h' (⟨hg,u,rfl,s⟩ | ⟨hg,rfl,s⟩)
 ·obtain ⟨qw,_,cap,_,rfl,_⟩:=s.fI (by omega)
  refine zk 3 rfl ?_
  refine aA.b5 s rfl rfl rfl (bX j7) (fun p8 h s => ?_)
  dsimp only [V.cells,List.length_cons,List.length_nil,Nat.reduceAdd] at s
  refine zS rfl (s.eH (j:=0) rfl bL rfl rfl) (fun h s => ?_)
  dsimp only [setA] at s
  refine zk 3 rfl (WP.block (zK 3 rfl (zh rfl (af rfl rfl aN) (rfl) (zk 6 rfl (zh rfl (af rfl rfl aT) (by simp) ?_)))))
  refine zk 2 rfl (zl rfl (s.cA (k:=0) rfl cG bL) (zc rfl (lC hT s (k:=1) rfl (bg _ _) hl) ?_))
  rintro r h' ⟨rfl,s⟩
  rw [J.c8]
  refine zh rfl (af rfl rfl mG) (by simp; omega) ?_
  refine zk 2 rfl (zv (zj rfl (WP.skip (zg rfl (zl rfl (by exact s.cA (k:=0) rfl cG bL) ?_)))))
  refine zm rfl (zc rfl (A8 (i:=i) hT s (k:=1) rfl (bg _ _) hl (by omega)) ?_)
  rintro r h' ⟨rfl,s⟩
  rw [hf,s2]
  refine zk 10 rfl (zo rfl (aU rfl rfl rfl (a_ aG (s.aE (k:=3) rfl hY))) (zm rfl (zt rfl (af rfl rfl BY) (by simp; omega) ?_)))
  refine zk 4 rfl (zf rfl (g8 _ _) (zl rfl (s.ld (k:=0) rfl bJ rfl) (zm rfl ?_)))
  have ku:=eO (s.aE (k:=1) rfl (bg _ _)) (a:=f) (by omega)
  refine zo rfl (cf (p:=some (.int .i64 (f:Int))) (q:=none) (m:=none) (p':=some f) (q':=none) (m':=none) rfl rfl rfl rfl (by rw [dm (by omega)]; rfl) rfl rfl ku.1) ?_
  refine zm rfl (aA.any rfl rfl rfl (OpR.TF rfl (s.ae [1,2]) hY rfl rfl rfl rfl (by omega) (aD _) (by omega)) ?_)
  intro r h s
  rw [dO (by omega)] at s
  have s:=s.ae [2,0,1,0]
  refine zk 3 rfl (zl rfl (s.cA (k:=0) rfl cG bL) (zk 3 rfl (zo rfl (aU rfl rfl rfl (a_ aG (s.aE (k:=3) rfl hY))) (zc rfl (Dy (i:=i) (f:=f) (z:=c'.length) hT (s.ae [1]) l1 (by omega) (by omega) (by omega)) ?_))))
  rintro r h ⟨rfl,s⟩
  have s:=s.ae [1,0]
  exact zk 3 rfl (zf rfl (g8 _ _) (zl rfl (s.ld (k:=0) rfl bJ rfl) (zk 3 rfl (WP.ret ⟨aa,_,rfl,_,_,rfl,I,s.drop⟩))))
 ·rw [J.good] at hg; cases hg
theorem MJ (hT:W told){c0 c1:List Nat}(s:Sat h (X::S))(hX:cT X (cU v b))(hp:dX b kd link extra [c0,c1]):
  Call ⟨Tryz.prog,told⟩ 140 [v] h fun r h'=>∃w u0 u1,r=.bj [w,.int .i64 0]∧Sat h' (.arr 1 w [u0,u1]::aZ u0 c0::aZ u1 c1::X::S):=by
 have hl:=hp.len
 have hv:=s.aE (k:=0) rfl hX
 have dZ:=hp.fits
 simp only [tot,aS,bT] at dZ
 obtain ⟨pi,po,pc,rfl⟩:=iC hv (by omega)
 obtain ⟨i1,kB,jF,wL⟩:=RU
 refine Call.of_wp (hT.free _ rfl) Tryz.func140 rfl rfl (zK 8 rfl (zc rfl (uA hT s hX (by omega)) ?_))
 rintro r h' ⟨s,(⟨hg,rfl⟩ | ⟨hg,rfl⟩)⟩
 ·refine aA.op rfl rfl rfl (bz rfl) ?_
  refine zk 2 rfl ?_
  refine aA.b5 s rfl rfl rfl (bX j7) (fun p4 h s => ?_)
  dsimp only [V.cells,List.length_cons,List.length_nil,Nat.reduceAdd] at s
  refine zS rfl (s.eH (j:=0) rfl bL rfl rfl) (fun h s => ?_)
  dsimp only [setA] at s
  refine zk 6 rfl (zh rfl (af rfl rfl aN) (rfl) (zk 5 rfl (zl rfl (s.cA (k:=0) rfl cG bL) (zc rfl (lC hT s (k:=1) rfl hX hl) ?_))))
  rintro r h' ⟨rfl,s⟩
  rw [show kI b=2 from hp.c8]
  obtain ⟨wv,h1,e3,s1⟩:=u_ (P:=Tryz.prog) s gn kB oP jF (by omega) rfl (by decide) (by decide) (n:=0) (c:=2) (by decide) (by decide)
  refine aA.any rfl rfl rfl (OpR.of (R:=fun v h'=>v=wv∧h'=h1) (sK rfl rfl e3) ⟨rfl,rfl⟩) ?_
  rintro w0 h ⟨rfl,rfl⟩
  have s:Sat h (.arr 1 w0 []::_):=s1
  have s:=s.ae [1,1,0]
  dsimp only [bringA,getA,aQ] at s
  refine zk 5 rfl (zl rfl (s.cA (k:=0) rfl cG bL) (zc rfl (lC hT s (k:=1) rfl hX hl) ?_))
  rintro r h' ⟨rfl,s⟩
  rw [show kI b=2 from hp.c8]
  refine zk 2 rfl (WP.block (WP.loop (zg rfl (zt rfl (af rfl rfl aT) (by decide) ?_))))
  refine zk 5 rfl (WP.block (zK 7 rfl (zl rfl (s.cA (k:=0) rfl cG bL) (zm rfl (zc rfl (E4 (i:=0) (c:=c0) hT s (k:=1) rfl hX hp rfl) ?_)))))
  rintro r h' ⟨f,rfl,hr,s⟩
  refine zc rfl (Ad hT (s.ae [1]) hr (by omega)) ?_
  intro u0 h s
  have I:=(s.buf (k:=0) rfl).view.cells
  have s:=s.ae [3]
  dsimp only [aQ,bringA,getA] at s
  obtain ⟨iv,h1,uI,s1⟩:=l_ (P:=Tryz.prog) (k:=1) (x:=u0) s gn oP gR rfl (by decide) (by decide) (by rw [I.1]; rfl) (by rw [I.1]; simp only [fH,jh,I.2]; rfl)
  rw [I.1] at s1
  refine aA.any rfl rfl rfl (OpR.of (R:=fun v h'=>v=iv∧h'=h1) (om rfl uI) ⟨rfl,rfl⟩) ?_
  rintro v' h' ⟨rfl,rfl⟩
  obtain ⟨av,h2,rZ,s2⟩:=iK (s1.ae [1,0]) gn kB oP jF (by omega) rfl (by decide) (by simp)
  dsimp only [List.nil_append,aQ,bringA] at s2
  refine aA.any rfl rfl rfl (OpR.of (R:=fun v h'=>v=av∧h'=h2) (mF rfl rfl rZ) ⟨rfl,rfl⟩) ?_
  rintro v' h ⟨rfl,rfl⟩
  have s:=(s2.del 1).ae [3,2,0,0]
  dsimp only [aQ,bringA,getA] at s
  refine za rfl (zv (zr rfl (zb rfl (by exact br (aC (by omega) (by omega))) ?_)))
  refine zm rfl (zv (WP.loop (zg rfl (zt rfl (af rfl rfl aT) (by decide) ?_))))
  refine zk 5 rfl (WP.block (zK 7 rfl (zl rfl (s.cA (k:=0) rfl cG bL) (zm rfl (zc rfl (E4 (i:=1) (c:=c1) hT s (k:=1) rfl hX hp rfl) ?_)))))
  rintro r h' ⟨f1,rfl,lW,s⟩
  refine zc rfl (Ad hT (s.ae [1]) lW (by omega)) ?_
  intro u1 h s
  have J:=(s.buf (k:=0) rfl).view.cells
  have s:=s.ae [3]
  dsimp only [aQ,bringA,getA] at s
  obtain ⟨iv1,h1,uI,s1⟩:=l_ (P:=Tryz.prog) (k:=1) (x:=u1) s gn oP gR rfl (by decide) (by decide) (by rw [J.1]; rfl) (by rw [J.1]; simp only [fH,jh,J.2]; rfl)
  rw [J.1] at s1
  refine aA.any rfl rfl rfl (OpR.of (R:=fun v h'=>v=iv1∧h'=h1) (om rfl uI) ⟨rfl,rfl⟩) ?_
  rintro v' h' ⟨rfl,rfl⟩
  obtain ⟨av1,h2,rZ,s2⟩:=iK (s1.ae [1,0]) gn kB oP jF (by omega) rfl (by decide) (by simp)
  dsimp only [List.cons_append,List.nil_append,aQ,bringA] at s2
  refine aA.any rfl rfl rfl (OpR.of (R:=fun v h'=>v=av1∧h'=h2) (mF rfl rfl rZ) ⟨rfl,rfl⟩) ?_
  rintro v' h ⟨rfl,rfl⟩
  have s:=(s2.del 1).ae [3,2,0,1,0]
  dsimp only [aQ,bringA,getA] at s
  refine za rfl (zv (zr rfl (zb rfl (by exact br (aC (by omega) (by omega))) ?_)))
  refine zm rfl (zv (WP.loop (zg rfl (zh rfl (af rfl rfl aT) (by decide) ?_))))
  exact zk 3 rfl (WP.exit (zK 6 rfl (WP.ret ⟨aa,_,rfl,_,_,_,rfl,(s.ae [2,2,2,1]).del 4⟩)))
 ·rw [hp.good] at hg; cases hg
end
def Sm (N:Nat)(ε ε':aI): Prop:=(∀m,pgA ε' m=pgA ε m)∧(∀P:VP,oo N P→vw P ε→vw P ε')∧cn ε'≤cn ε
theorem Sm.refl (N:Nat)(ε:aI): Sm N ε ε:=⟨fun _=>rfl,fun _ _ h=>h,aD _⟩
theorem Sm.trans {N:Nat}{a b c:aI}(h:Sm N a b)(g:Sm N b c): Sm N a c:=⟨fun m=>(g.1 m).trans (h.1 m),fun P I hv=>g.2.1 P I (h.2.1 P I hv),cC g.2.2 h.2.2⟩
structure uP (told : cQ) (N B : Nat) (rv : V) (A : aI → au) (pg : aI → Int → List Nat) : Prop where
 iface : ∃ ty u f, rv = .iface ty u ∧ methV Tryz.prog ty "Read" = some f ∧ ∀ {h : H} {S : List au} {ε : aI} {n : Int}, EI N B ε → 0 ≤ n → n < N → Sat h (A ε :: S) →
  Call ⟨Tryz.prog, told⟩ f [u, .int .i64 n] h fun v h' => ∃ w ε', v = .bj [w, .int .i64 0] ∧ EI N B ε' ∧ Sm N ε ε' ∧ Sat h' (aZ w (pg ε n) :: A ε' :: S)
 same : ∀ {ε ε' : aI}, Sm N ε ε' → ∀ m, pg ε' m = pg ε m
section
variable {P:Program} {h:H} {S:List au} {k id off i:Nat} {v c:V} {cs:List V} {t te t':TypeId}
theorem Sat.Ae (s:Sat h S)(hk:getA S k=some (.arr 1 v cs))(hi:cs[i]?=some c)(hu:P.underlying t=some (.slice te))(I:bH P te=some 1)(e:indexAddrV P t v (.int .i64 (i:Int))=some (.ptr id off))(ha:cm P t'=some false): loadV P h t' (.ptr id off)=some c:=by
 obtain ⟨J,off',e1,e2⟩:=mc s hk hi hu I
 rw [e] at e1
 have e3:V.ptr id off=V.ptr J off':=bk e1
 rw [e3]; exact e2 _ ha
theorem U7 {E:List (Nat×V)}{s d:TypeId}{x:Operand}{v r:V}{h₁:H}(I:lookO E x=some v)(J:convV P h s d v=none)(h2:convB P h s d v=some (r,h₁)): opE P E h (.convert s d x)=some (r,h₁):=by
 simp only [opE,jQ,I,J,h2]
end
def fB : List Nat:=[109,117,110,105,109,101,110,116]
theorem RV {h:H}: buildSliceV Tryz.prog h 28 8 [(0,.int .u8 109),(1,.int .u8 117),(2,.int .u8 110),(3,.int .u8 105),(4,.int .u8 109),(5,.int .u8 101),(6,.int .u8 110),(7,.int .u8 116)]=some (.sl h.next 0 8 (.exact 8),newRow h (ofBytes fB)):=by
 simp only [buildSliceV,aG,dP,oO,V.cells]
 rfl
theorem Dz {P:Program}{h:H}{t:TypeId}{x y:Operand}{a b:Nat}(J:0<b)(hw:a<9223372036854775808): binV P h .quo t x y (.int .i64 (a:Int)) (.int .i64 (b:Int))=some (.int .i64 ((a/b:Nat):Int)):=by
 simp only [binV,ikBeq,ag,intV]
 have:intBeq (b:Int) 0=false:=by rw [k_]; simp; omega
 have I:a/b≤a:=Eh a b
 rw [this,az,DT (by omega),←Ec]
 generalize a/b=q at I ⊢
 rw [aC (by omega) (by omega)]
section
variable {told:cQ} {h:H} {S:List au} {X Y:au} {N B n:Nat} {v x y rv:V} {b l c R M:List Nat} {kd link extra:Nat} {cs:List (List Nat)} {A:aI→au} {pg:aI→Int→List Nat} {ε:aI}
theorem Iv (J:W told)(s:Sat h S): Call ⟨Tryz.prog,told⟩ 74 [] h fun r h'=>Sat h' (.cx r fB::S):=by
 refine Call.of_wp (J.free _ rfl) Tryz.func74 rfl rfl (zK 6 rfl (aA.any rfl rfl rfl (OpR.of (R:=fun v h'=>v=.sl h.next 0 8 (.exact 8)∧h'=newRow h (ofBytes fB)) (om rfl RV) ⟨rfl,rfl⟩) ?_))
 rintro v I ⟨rfl,rfl⟩
 have s1:Sat (newRow h (ofBytes fB)) (pt h.next (.cells 8 (ofBytes fB) false)::S):=s.new _
 generalize newRow h (ofBytes fB)=I at s1
 generalize h.next=id at s1
 have hg:=s1.row (k:=0) rfl
 have e1:convB Tryz.prog I 28 28 (.sl id 0 8 (.exact 8))=some (.sl id 0 8 (.exact 8),I.put id (some (.cells 8 (ofBytes fB) true))):=by
  simp only [convB,aG,Tryz.underlying5,hg]
  rfl
 have e0:convV Tryz.prog I 28 28 (.sl id 0 8 (.exact 8))=none:=by
  simp only [convV,aG]
 have s2:Sat (I.put id (some (.cells 8 (ofBytes fB) true))) (pt id (.cells 8 (ofBytes fB) true)::S):=s1.put (k:=0) rfl
 have s3:Sat (I.put id (some (.cells 8 (ofBytes fB) true))) (.cx (.sl id 0 8 (.exact 8)) fB::S):=s2.freeze.hO (B:=.cx (.sl id 0 8 (.exact 8)) fB) fun m r hm=>⟨by decide,.inr ⟨id,0,.exact 8,8,_,true,rfl,hm,rfl,by decide,rfl,by decide⟩⟩
 refine aA.any rfl rfl rfl (OpR.of (R:=fun v h'=>v=.sl id 0 8 (.exact 8)∧h'=I.put id (some (.cells 8 (ofBytes fB) true))) (U7 rfl e0 e1) ⟨rfl,rfl⟩) ?_
 rintro v h2 ⟨rfl,rfl⟩
 exact zk 2 rfl (WP.ret ⟨aa,_,rfl,s3⟩)
theorem Pn (J:W told)(hx:View h x l)(hy:View h y c): Call ⟨Tryz.prog,told⟩ 141 [x,y] h fun r h'=>r=.bool (decide (l=c))∧h'=h:=by
 refine Call.of_wp (J.free _ rfl) Tryz.func141 rfl rfl (zK 7 rfl (zo rfl (cJ rfl (Z_ hx)) (zm rfl (zo rfl (cJ rfl (Z_ hy)) ?_))))
 by_cases I:l=c
 ·skip
  exact zt rfl (af rfl rfl Td) (decide_eq_true I) (zk 2 rfl (WP.ret ⟨aa,_,rfl,by rw [fo I],rfl⟩))
 ·skip
  exact zh rfl (af rfl rfl Td) (decide_eq_false I) (zk 2 rfl (WP.ret ⟨aa,_,rfl,by rw [eU I],rfl⟩))
theorem Af (I:W told)(J:1≤n)(h2:n≤3000): Call ⟨Tryz.prog,told⟩ 54 [.int .i64 (n:Int)] h fun r h'=>r=.int .i64 2∧h'=h:=by
 have e:(n+2999)/3000=1:=by omega
 refine Call.of_wp (I.free _ rfl) Tryz.func54 rfl rfl (zK 7 rfl (zb rfl (by exact br (aC (by omega) (by omega))) ?_))
 refine zb rfl (by exact jE (aC (by omega) (by omega))) ?_
 refine zo rfl (af (r:=.int .i64 (((n+2999)/3000:Nat):Int)) rfl rfl (by rw [show (n:Int)+3000-1=((n+2999:Nat):Int) by omega]; exact Dz (by decide) (by omega))) ?_
 rw [e]
 refine zb rfl (by exact br (aC (by omega) (by omega))) ?_
 exact zk 2 rfl (WP.ret ⟨aa,_,rfl,rfl,rfl⟩)
theorem Iw (hT:W told)(hR:uP told N B rv A pg)(mo:EI N B ε)(hN:1≤N)(hp:dX (pg ε 0) 201 n extra [fB,R])(nM:R.length=64)(s:Sat h (A ε::S)):
  Call ⟨Tryz.prog,told⟩ 91 [rv] h fun v h'=>∃u ε',v=.bj [u,.int .i64 (n:Int),.bool true,.int .i64 0]∧EI N B ε'∧Sm N ε ε'∧Sat h' (aZ u R::A ε'::S):=by
 obtain ⟨ty,u,f,rfl,hm,jq⟩:=hR.iface
 refine Call.of_wp (hT.free _ rfl) Tryz.func91 rfl rfl (zK 10 rfl (aA.any rfl rfl rfl (OpR.invoke rfl rfl rfl hm rfl (jq mo (by decide) (by omega) s)) ?_))
 rintro v h ⟨u,ε',rfl,K5,hs,s⟩
 refine zk 10 rfl (zh rfl (af rfl rfl aN) (rfl) (zk 6 rfl (zc rfl (MJ hT s (bg _ _) hp) ?_)))
 rintro v h ⟨w,u0,u1,rfl,s⟩
 obtain ⟨id0,I,g1,g2⟩:=mc (P:=Tryz.prog) s (k:=0) (i:=0) (c:=u0) rfl rfl gn gR
 obtain ⟨id1,J,g3,g4⟩:=mc (P:=Tryz.prog) s (k:=0) (i:=1) (c:=u1) rfl rfl gn gR
 have hbw:=(s.jb (j:=0) rfl).2.2
 have yg:=dz (s.buf (k:=1) rfl).view
 refine zk 8 rfl ?_
 have s0:=s
 refine WP.drawn [ai,ai,ai,ai,ai,ai,ai,ai,some (0,2),some (0,2),some (0,2),ai,ai,ai,ai,ai,ai,ai,ai,ai,ai,ai] rfl (by kernel_rfl) (by kernel_rfl) ?_
 refine zM rfl (aB.oD rfl rfl rfl rfl (af rfl rfl aN) (by decide) ?_)
 refine zM rfl (zM rfl (zO rfl (aU rfl rfl rfl (s.iB (n:=2) (j:=0) rfl rfl (by decide) gn)) ?_))
 refine aB.oD rfl rfl rfl rfl (af rfl rfl aN) (by decide) ?_
 refine zO rfl (kj rfl rfl) (zM rfl (zM rfl (zO rfl (dr (r:=.ptr id0 I) rfl rfl g1) (zL rfl (s.Ae (k:=0) (i:=0) rfl rfl gn gR g1 bJ) (aB.any rfl rfl rfl rfl (OpR.call rfl rfl rfl rfl (Iv hT s)) ?_)))))
 intro mv h s
 have s:=s.ae [1,1,1,1,1,0]
 have s1:=s
 refine aB.any rfl rfl rfl rfl (OpR.call rfl rfl rfl rfl (Pn hT (s.buf (k:=1) rfl).view (s.aE (k:=5) rfl (dy _ _)))) ?_
 rintro r h' ⟨rfl,rfl⟩
 rw [show decide (fB=fB)=true from fo rfl]
 refine zO rfl (eD rfl rfl) (zO rfl (kj rfl rfl) (zM rfl (zM rfl (zO rfl (dr (r:=.ptr id1 J) rfl rfl g3) (zL rfl (s.Ae (k:=0) (i:=1) rfl rfl gn gR g3 bJ) (zO rfl (aU rfl rfl rfl (a_ aG (s.aE (k:=2) rfl (bg _ _)))) ?_))))))
 rw [nM]
 refine aB.oD rfl rfl rfl rfl (af rfl rfl aN) (by decide) ?_
 refine zO rfl (kj rfl rfl) ?_
 refine aB.nil ⟨⟨aa,aa,aa,aa,aa,aa,aa,aa,fun _ _=>.inr ⟨rfl,⟨_,bz rfl⟩,hbw⟩,fun _ _=>.inr ⟨rfl,⟨_,dr (r:=.ptr id0 I) rfl rfl g1⟩,bq _ rfl⟩,dW (.inr ⟨rfl,⟨_,bh rfl (s0.Ae (k:=0) (i:=0) rfl rfl gn gR g1 bJ)⟩,yg⟩) (.inr ⟨rfl,⟨_,bh rfl (s1.Ae (k:=0) (i:=0) rfl rfl gn gR g1 bJ)⟩,yg⟩),aa,aa,aa,aa,aa,aa,aa,aa,aa,aa,aa,aa⟩,?_⟩
 refine zK 5 rfl ?_
 have Cs:=hp.len
 refine zc rfl (KR hT (s.ae [3]) (bg _ _) (by omega)) ?_
 rintro v h ⟨s,(⟨hg,rfl⟩ | ⟨hg,rfl⟩)⟩
 ·rw [show (pg ε 0).getD 12 0=201 from hp.kind,show dn (pg ε 0) 18 4=n from hp.link]
  have s:=s.ae [1,1,1,1,0]
  refine zk 16 rfl (zh rfl (af rfl rfl aN) (by decide) ?_)
  exact zk 6 rfl (zo rfl (dr (r:=.ptr id1 J) rfl rfl g3) (zl rfl (s.Ae (k:=0) (i:=1) rfl rfl gn gR g3 bJ) (zk 6 rfl (WP.ret ⟨aa,_,rfl,_,ε',rfl,K5,hs,(((((s.ae [2,2]).del 5).del 4).del 3).del 2)⟩))))
 ·rw [hp.good] at hg; cases hg
theorem tH (hT:W told)(hR:uP told N B rv A pg)(J:EI N B ε)(hN:1≤N)(hp:dX (pg ε 0) 201 n extra [fB,R])(nM:R.length=64)(s:Sat h (A ε::S)):
  Call ⟨Tryz.prog,told⟩ 53 [rv] h fun v h'=>∃u ε',v=.bj [u,.int .i64 (n:Int),.int .i64 0]∧EI N B ε'∧Sm N ε ε'∧Sat h' (aZ u R::A ε'::S):=by
 refine Call.of_wp (hT.free _ rfl) Tryz.func53 rfl rfl (zK 9 rfl (zc rfl (Iw hT hR J hN hp nM s) ?_))
 rintro v h ⟨u,ε',rfl,I,hs,s⟩
 refine zk 9 rfl (zv (zw (WP.block (zg rfl (zm rfl (zh rfl (af rfl rfl aN) (rfl) (za rfl (zv (zj rfl (zg rfl (zm rfl (zo rfl (eD rfl rfl) (za rfl (zv (zj rfl (WP.skip (zg rfl (zk 5 rfl (zv ?_)))))))))))))))))))
 refine WP.ret ⟨aa,_,rfl,?_⟩
 exact ⟨u,ε',rfl,I,hs,s⟩
theorem Ag (hT:W told)(hR:uP told N B rv A pg)(J:EI N B ε)(hN:1≤N)(hp:dX (pg ε 0) 201 n extra [fB,R])(nM:R.length=64)(s:Sat h (A ε::S)):
  Call ⟨Tryz.prog,told⟩ 37 [rv] h fun v h'=>∃ε',v=.bj [.bool true,.int .i64 0]∧EI N B ε'∧Sm N ε ε'∧Sat h' (A ε'::S):=by
 refine Call.of_wp (hT.free _ rfl) Tryz.func37 rfl rfl (zK 8 rfl (zc rfl (Iw hT hR J hN hp nM s) ?_))
 rintro v h ⟨u,ε',rfl,I,hs,s⟩
 exact zk 17 rfl (WP.ret ⟨aa,_,rfl,ε',rfl,I,hs,s.drop⟩)
theorem U8 (J:W told)(hR:uP told N B rv A pg)(mo:EI N B ε)(hN:1≤N)(hp:dX (pg ε 0) 201 n extra [fB,R])(nM:R.length=64)(h1:1≤n)(h2:n≤3000)(s:Sat h (A ε::S)):
  Call ⟨Tryz.prog,told⟩ 66 [rv] h fun v h'=>∃ε',v=.bj [.int .i64 2,.int .i64 0]∧EI N B ε'∧Sm N ε ε'∧Sat h' (A ε'::S):=by
 refine Call.of_wp (J.free _ rfl) Tryz.func66 rfl rfl (zK 8 rfl (zc rfl (tH J hR mo hN hp nM s) ?_))
 rintro v h ⟨u,ε',rfl,I,hs,s⟩
 refine zk 12 rfl (zh rfl (af rfl rfl aN) (rfl) (zk 6 rfl (zc rfl (Af J h1 h2) ?_)))
 rintro v h' ⟨rfl,rfl⟩
 exact zk 3 rfl (WP.ret ⟨aa,_,rfl,ε',rfl,I,hs,s.drop⟩)
theorem xR (hT:W told)(hR:uP told N B rv A pg)(J:EI N B ε)(hN:2≤N)(hp:dX (pg ε 1) kd link extra [M])(hM:M.length=375)(s:Sat h (A ε::S)):
  Call ⟨Tryz.prog,told⟩ 55 [rv,.int .i64 0] h fun v h'=>∃w u ε',v=.bj [w,u,.int .i64 0]∧EI N B ε'∧Sm N ε ε'∧Sat h' (aZ u M::aZ w (pg ε 1)::A ε'::S):=by
 obtain ⟨ty,u,f,rfl,hm,jq⟩:=hR.iface
 refine Call.of_wp (hT.free _ rfl) Tryz.func55 rfl rfl (zK 11 rfl (zb rfl (by exact br (aC (by omega) (by omega))) ?_))
 refine aA.any rfl rfl rfl (OpR.invoke rfl rfl rfl hm rfl (jq (n:=1) J (by decide) (by omega) s)) ?_
 rintro v h ⟨w,ε',rfl,I,hs,s⟩
 refine zk 9 rfl (zh rfl (af rfl rfl aN) (rfl) (zk 6 rfl (zc rfl (RT (i:=0) hT s (bg _ _) hp rfl) ?_)))
 rintro v h ⟨u,rfl,s⟩
 refine zk 10 rfl (zh rfl (af rfl rfl aN) (rfl) (zk 2 rfl (zo rfl (aU rfl rfl rfl (a_ aG (s.aE (k:=0) rfl (bg _ _)))) ?_)))
 rw [hM]
 refine zh rfl (af rfl rfl aN) (by decide) ?_
 exact zk 12 rfl (WP.ret ⟨aa,_,rfl,w,u,ε',rfl,I,hs,s⟩)
theorem U9 (J:W told)(hR:uP told N B rv A pg)(mo:EI N B ε)(hN:1≤N)(hp:dX (pg ε 0) 201 n extra [fB,R])(nM:R.length=64){i:Int}(hi0 : -1≤i)(kB:i≤16)(s:Sat h (A ε::S)):
  Call ⟨Tryz.prog,told⟩ 69 [rv,.int .i64 i] h fun v h'=>∃ε',v=(if 0≤i∧i<16 then .bj [.int .i64 (dn R (4*i.toNat) 4:Nat),.int .i64 0] else .bj [.int .i64 0,.int .i64 1])∧EI N B ε'∧Sm N ε ε'∧Sat h' (A ε'::S):=by
 refine Call.of_wp (J.free _ rfl) Tryz.func69 rfl rfl (zK 8 rfl (zc rfl (tH J hR mo hN hp nM s) ?_))
 rintro v h ⟨u,ε',rfl,I,hs,s⟩
 refine zk 9 rfl (WP.block (zK 3 rfl (zh rfl (af rfl rfl aN) (rfl) (zk 6 rfl ?_))))
 by_cases h0:i<0
 ·skip
  refine zt rfl (af rfl rfl aT) (by simp; omega) ?_
  exact zk 12 rfl (WP.ret ⟨aa,_,rfl,ε',by rw [ah (by omega)],I,hs,s.drop⟩)
 ·skip
  refine zh rfl (af rfl rfl aT) (by simp; omega) ?_
  refine zk 2 rfl ?_
  by_cases h1:16≤i
  ·skip
   refine zt rfl (af rfl rfl mG) (by simp; omega) ?_
   exact zk 9 rfl (WP.ret ⟨aa,_,rfl,ε',by rw [ah (by omega)],I,hs,s.drop⟩)
  ·skip
   refine zh rfl (af rfl rfl mG) (by simp; omega) ?_
   refine zk 2 rfl (zv (zj rfl (WP.skip (zg rfl (zk 2 rfl (zb rfl (by exact kA (aC (by omega) (by omega))) ?_))))))
   refine zm rfl (zb rfl (by exact br (aC (by omega) (by omega))) ?_)
   refine zb rfl (by exact kA (aC (by omega) (by omega))) ?_
   obtain ⟨k,rfl⟩:∃k:Nat,i=k:=⟨i.toNat,by omega⟩
   have hv:=(s.buf (k:=0) rfl).view
   have q1:(4*(k:Int)).toNat=4*k:=by omega
   have q2:(4*((k:Int)+1)).toNat=4*k+4:=by omega
   refine zo rfl (cf (p:=some (.int .i64 (4*(k:Int)))) (q:=some (.int .i64 (4*((k:Int)+1)))) (m:=none) (p':=some (4*k)) (q':=some (4*k+4)) (m':=none) rfl rfl rfl rfl (by rw [dm (by omega),q1]) (by rw [dm (by omega),q2]) rfl (er hv (by omega) (by omega)).1) ?_
   refine zc rfl (n4 J s (k:=0) rfl (lB (bg _ _) (a:=4*k) (b:=4*k+4) (by omega) (by omega)) (by simp; omega)) ?_
   rintro v h' ⟨rfl,rfl⟩
   have bF:=zJ (a:=4*k) (z:=4) hv.1
   have ea:leN ((R.take (4*k+4)).drop (4*k))=dn R (4*k) 4:=rfl
   rw [ea]
   refine zo rfl (cJ rfl (by exact iZ cE bD (aC (by omega) (by omega)))) ?_
   exact zk 3 rfl (WP.ret ⟨aa,_,rfl,ε',by rw [aj (by omega)]; rfl,I,hs,s.drop⟩)
end
def bt (M:List Nat)(i:Nat): Bool:=(M.getD (i/8) 0).testBit (i%8)
def F1 (M:List Nat)(i:Nat): List Nat:=M.set (i/8) (Nat.lor (M.getD (i/8) 0) (2^(i%8)))
def Po (M:List Nat)(i:Nat): List Nat:=M.set (i/8) (Nat.land (M.getD (i/8) 0) (255-2^(i%8)))
theorem Iy {M:List Nat}{i j b:Nat}(hi:i<M.length): (M.set i b).getD j 0=if i=j then b else M.getD j 0:=by
 rw [dU,qH]
 by_cases h:i=j
 ·subst h; rw [aj rfl,aj rfl,aj hi]; rfl
 ·rw [ah h,ah h,dU]
theorem Y5 {M:List Nat}{i j:Nat}(hi:i/8<M.length): bt (F1 M i) j=if j=i then true else bt M j:=by
 unfold bt F1
 rw [Iy hi]
 by_cases h:i/8=j/8
 ·rw [aj h,show Nat.lor (M.getD (i/8) 0) (2^(i%8))=(M.getD (i/8) 0) ||| (2^(i%8)) from rfl,Nat.testBit_or,D3,h]
  by_cases I:j=i
  ·subst I; simp
  ·rw [ah I,show decide (i%8=j%8)=false from eU (by omega),Bool.or_false]
 ·rw [ah h,ah (by intro e; exact h (by rw [e]))]
theorem Y6 {M:List Nat}{i j:Nat}(hi:i/8<M.length): bt (Po M i) j=if j=i then false else bt M j:=by
 unfold bt Po
 rw [Iy hi]
 by_cases h:i/8=j/8
 ·have e:255-2^(i%8)=2^8-(2^(i%8)+1):=by omega
  have I:2^(i%8)<2^8:=vL (by decide) (by omega)
  rw [aj h,show Nat.land (M.getD (i/8) 0) (255-2^(i%8))=(M.getD (i/8) 0) &&& (255-2^(i%8)) from rfl,Nat.testBit_and,e,Nat.testBit_two_pow_sub_succ I,D3,h]
  by_cases J:j=i
  ·subst J; simp
  ·rw [ah J,show decide (i%8=j%8)=false from eU (by omega),show decide (j%8<8)=true from fo (by omega)]
   simp
 ·rw [ah h,ah (by intro e; exact h (by rw [e]))]
theorem Lb {M:List Nat}{i:Nat}: (F1 M i).length=M.length:=bW
theorem Lc {M:List Nat}{i:Nat}: (Po M i).length=M.length:=bW
theorem Pp {a k:Nat}(I:a<256)(J:k<8): Nat.lor a (2^k)<256:=Nat.or_lt_two_pow (n:=8) I (vL (by decide) J)
theorem E6 {a c:Nat}(I:a<256): Nat.land a c<256:=Nat.lt_of_le_of_lt Nat.and_le_left I
def sP (x:Nat): Nat:=((List.range 8).filter fun i=>x.testBit i).length
def ng (x:Nat): Nat:=((List.range 8).filter fun i => !x.testBit i).headD 8
theorem U_ : ∀x,x<255→ng x<8∧x.testBit (ng x)=false∧∀j,j<ng x→x.testBit j=true:=by
 have:∀x,x<255→(decide (ng x<8)&&(!x.testBit (ng x)&&(List.range (ng x)).all fun j=>x.testBit j))=true:=by decide +kernel
 intro x I
 have h:=this x I
 simp only [aO,eL,vS,lQ,List.mem_range] at h
 exact ⟨h.1,h.2.1,h.2.2⟩
theorem aaX : ∀x,x<256→(∀j,j<8→x.testBit j=true)→x=255:=by
 have:∀x,x<256→((List.range 8).all fun j=>x.testBit j)=true→x=255:=by decide +kernel
 intro x I h
 exact this x I (List.all_eq_true.2 fun j J=>h j (List.mem_range.1 J))
theorem DB {M:List Nat}{k j:Nat}(I:j<8): bt M (8*k+j)=(M.getD k 0).testBit j:=by
 unfold bt
 rw [show (8*k+j)/8=k by omega,show (8*k+j)%8=j by omega]
section
variable {P:Program} {h:H} {t:TypeId} {x y:Operand} {a b k:Nat}
theorem Xu (I:k<8): binV P h .shr t x y (.int .u8 (a:Int)) (.int .i64 (k:Int))=some (.int .u8 ((a/2^k:Nat):Int)):=by
 simp only [binV,shiftV,IntKind.bits,b9]
 rw [show decide ((k:Int)<0)=false by simp,az,show min k 8=k by omega]
 have e:(2:Int)^k=((2^k:Nat):Int):=by push_cast; rfl
 rw [e,As _ (Int.natCast_nonneg _),←Ec]
theorem Xv (J:k<8): binV P h .shl t x y (.int .u8 1) (.int .i64 (k:Int))=some (.int .u8 ((2^k:Nat):Int)):=by
 have I:2^k<256:=vL (a:=2) (n:=8) (by decide) J
 simp only [binV,shiftV,IntKind.bits,b9]
 rw [show decide ((k:Int)<0)=false by simp,az,show min k 8=k by omega]
 have e:(1:Int)*2^k=((2^k:Nat):Int):=by rw [Int.one_mul]; push_cast; rfl
 rw [e]
 generalize (2^k:Nat)=q at I ⊢
 rw [C1 (by omega) (by omega)]
theorem Bd {op:BinOp}{f:Nat→Nat→Nat}(ha:a<256)(hb:b<256)(hf:f a b<256)(he:bitsV op .u8 (a:Int) (b:Int)=some (.int .u8 (IntKind.u8.wrap (f ((a:Int)%(2^(IntKind.u8).bits:Int)).toNat ((b:Int)%(2^(IntKind.u8).bits:Int)).toNat:Nat)))):
  bitsV op .u8 (a:Int) (b:Int)=some (.int .u8 ((f a b:Nat):Int)):=by
 have I:((a:Int)%(2^(IntKind.u8).bits:Int)).toNat=a:=by simp only [IntKind.bits]; omega
 have J:((b:Int)%(2^(IntKind.u8).bits:Int)).toNat=b:=by simp only [IntKind.bits]; omega
 rw [he,I,J,C1 (by omega) (by omega)]
theorem Xw (I:a<256)(J:b<256): binV P h .and t x y (.int .u8 (a:Int)) (.int .u8 (b:Int))=some (.int .u8 ((Nat.land a b:Nat):Int)):=by
 simp only [binV,ikBeq,ag,intV]
 exact Bd (f:=Nat.land) I J (E6 I) rfl
theorem Y7 (I:a<256)(J:k<8): binV P h .or t x y (.int .u8 (a:Int)) (.int .u8 ((2^k:Nat):Int))=some (.int .u8 ((Nat.lor a (2^k):Nat):Int)):=by
 simp only [binV,ikBeq,ag,intV]
 exact Bd (f:=Nat.lor) I (vL (a:=2) (n:=8) (by decide) J) (Pp I J) rfl
theorem Pq (I:a<256)(J:b<256): binV P h .andNot t x y (.int .u8 (a:Int)) (.int .u8 (b:Int))=some (.int .u8 ((Nat.land a (255-b):Nat):Int)):=by
 simp only [binV,ikBeq,ag,intV]
 exact Bd (f:=fun a b=>Nat.land a (255-b)) I J (E6 I) rfl
theorem Pr (I:a<256): unV .xor (.int .u8 (a:Int))=some (.int .u8 ((255-a:Nat):Int)):=by
 have:∀a,a<256→Nat.xor 255 a=255-a:=by decide +kernel
 simp only [unV]
 have e:bitsV .xor .u8 ((255:Nat):Int) (a:Int)=some (.int .u8 ((Nat.xor 255 a:Nat):Int)):=Bd (f:=Nat.xor) (by decide) I (by rw [this a I]; omega) rfl
 rw [this a I] at e
 exact e
theorem Xx : Nat.land (a/2^k) 1=if a.testBit k=true then 1 else 0:=by
 rw [Kh,show Nat.land (a/2^k) 1=(a/2^k) &&& 1 from rfl,D5]
 by_cases h:a/2^k%2=1
 ·rw [h,aj (decide_eq_true rfl)]
 ·rw [ah (by simpa using h)]; omega
theorem Ps {f:Nat→Nat}{L:List Nat}(hu:P.underlying t=some .string)(I:∀x,x<256→nth L x=some (f x))(J:a<256): indexV P t (.str L) (.int .u8 (a:Int))=some (.int .u8 ((f a:Nat):Int)):=by
 simp only [indexV,hu,b9,I a J]
 rw [show decide ((0:Int)≤(a:Int))=true by simp,ag]
end
end Go.Proofs.YtefepnnfphdkpaaGreat.Am
