/- SpacePlays: a part of its proof; conditions: its statement's. -/
import Derived.Test.YtefepnnfphdkpaaGreatE19
set_option linter.defProp false
namespace Go.Proofs.YtefepnnfphdkpaaGreat.Am
open Go
def FK:=@Tryz.underlying239
section
variable {told:cZ} {h:H} {S:List au} {X:au} {k:Nat} {v:V} {l:List Nat}
theorem tc (I:W told){n z:Nat}(s:Sat h (aZ v l::S))(J:z≤8)(hl:l.length+z≤140737488355328):
  Call ⟨Tryz.prog,told⟩ 95 [v,.int .i64 (z:Int),.int .u64 (n:Int)] h fun r h'=>Sat h' (aZ r (l++le z n)::S) :=
 (LR I.Qu s.wf (s.buf (k:=0) rfl) J hl).mono fun _ _ ⟨h1,h2,h3⟩=>s.zB h2 h1 h3
theorem oX (hT:W told){a z n:Nat}(s:Sat h (aZ v l::S))(hz:1≤z)(Xb:z≤8)(hl:a+z≤l.length)(jQ:l.length≤65536):
  Call ⟨Tryz.prog,told⟩ 99 [.agg [v],.int .i64 (a:Int),.int .i64 (z:Int),.int .u64 (n:Int)] h fun r h'=>r=.aY []∧Sat h' (aZ v (bk l a (le z n))::S):=by
 obtain ⟨I,_,cap,_,rfl,_⟩:=s.fB (by omega)
 refine Call.of_wp (hT.free _ rfl) Tryz.func99 rfl rfl (zg rfl ?_)
 refine az.cz s rfl rfl rfl (fc rfl rfl) (fun p4 h s => ?_)
 refine zv ?_
 have s0:=s
 refine WP.drawn [some (0,2),some (0,2),some (0,2),some (0,2),some (0,2),some (0,2),some (0,2),ai,ai,ai,ai] rfl (by kernel_rfl) (by kernel_rfl) ?_
 refine zF rfl (gC _ _) (zL rfl (s.ld (k:=0) rfl cS rfl) (zM rfl (zM rfl (zM rfl (zO rfl (af rfl rfl (by exact bg (aB (by omega) (by omega)))) ?_)))))
 have ez:((a:Int)+(z:Int)).toNat=a+z:=by omega
 have ea:((a:Int)).toNat=a:=by omega
 refine zO rfl (c_ (p:=some (.int .i64 (a:Int))) (q:=some (.int .i64 ((a:Int)+(z:Int)))) (m:=none) (p':=some a) (q':=some (a+z)) (m':=none) rfl rfl rfl rfl (by rw [dU (by omega),ea]) (by rw [dU (by omega),ez]) rfl (fW (s.buf (k:=1) rfl).view (by omega) hl).1) ?_
 refine zM rfl (zM rfl (aA.any rfl rfl rfl rfl (OpR.call rfl rfl rfl rfl (tc hT s.sW Xb (by simp; omega))) ?_))
 intro u h s
 have s:=s.ae [1,1,0]
 dsimp only [List.nil_append,V.cells,List.length_cons,List.length_nil,Nat.reduceAdd,bringA,getA,bf] at s
 have s1:=s
 refine aA.any rfl rfl rfl rfl (OpR.Qp rfl (s.ae [1,1]) (bz _ _) rfl rfl rfl rfl (by omega) hl (by simp [cJ]; omega)) ?_
 intro r h s
 have hs:∃q c,slR (V.sl I 0 l.length cap) a (a+z)=.sl I q (a+z-a) c:=by
  cases cap with
  | exact c=>exact ⟨_,_,rfl⟩
  | rest e alt=>exact ⟨_,_,rfl⟩
 obtain ⟨q,c,hs⟩:=hs
 have J:(slR (V.sl I 0 l.length cap) a (a+z)).beq (slR (V.sl I 0 l.length cap) a (a+z))=true:=by rw [hs]; exact Bw _ _ _ _
 refine aA.nil ⟨⟨fun _ _=>.inr ⟨rfl,⟨_,jS rfl (gC _ _)⟩,aS _ rfl⟩,dB (.inr ⟨rfl,⟨_,aR rfl (s0.ld (k:=0) rfl cS rfl)⟩,aS _ rfl⟩) (.inr ⟨rfl,⟨_,aR rfl (s1.ld (k:=0) rfl cS rfl)⟩,aS _ rfl⟩),fun _ _=>.inr ⟨rfl,⟨_,bF rfl⟩,aS _ rfl⟩,fun _ _=>.inr ⟨rfl,⟨_,bF rfl⟩,aS _ rfl⟩,fun _ _=>.inr ⟨rfl,⟨_,bF rfl⟩,aS _ rfl⟩,fun _ _=>.inr ⟨rfl,⟨_,af rfl rfl (by exact bg (aB (by omega) (by omega)))⟩,aS _ rfl⟩,dB (.inr ⟨rfl,⟨_,c_ (p:=some (.int .i64 (a:Int))) (q:=some (.int .i64 ((a:Int)+(z:Int)))) (m:=none) (p':=some a) (q':=some (a+z)) (m':=none) rfl rfl rfl rfl (by rw [dU (by omega),ea]) (by rw [dU (by omega),ez]) rfl (fW (s0.buf (k:=1) rfl).view (by omega) hl).1⟩,J⟩) (.inr ⟨rfl,⟨_,c_ (p:=some (.int .i64 (a:Int))) (q:=some (.int .i64 ((a:Int)+(z:Int)))) (m:=none) (p':=some a) (q':=some (a+z)) (m':=none) rfl rfl rfl rfl (by rw [dU (by omega),ea]) (by rw [dU (by omega),ez]) rfl (fW (s1.buf (k:=1) rfl).view (by omega) hl).1⟩,J⟩),aa,aa,aa,aa,aa⟩,?_⟩
 refine ⟨aa,_,rfl,rfl,?_⟩
 rw [show a+z-a=z by omega,fq (by rw [cJ]; omega)] at s
 exact (s.del 1).del 1
theorem td (hT:W told)(s:Sat h (X::S))(hX:c8 X (c9 v l))(J:l.length<9223372036854775808):
  Call ⟨Tryz.prog,told⟩ 153 [v] h fun r h'=>Sat h' (X::S)∧((cj l=true∧r=.aY [.agg [v],.int .i64 0])∨(cj l=false∧r=.aY [.agg [.bu],.int .i64 4])):=by
 have hv:=s.aU (k:=0) rfl hX
 refine Call.of_wp (hT.free _ rfl) Tryz.func153 rfl rfl (zg rfl ?_)
 refine az.cz s rfl rfl rfl (cy jC) (fun p2 h s => ?_)
 refine zk 6 rfl (zc rfl (IC hT (s.ae [1]) hX J) ?_)
 rintro r h' ⟨rfl,s⟩
 cases hg:cj l with
 | true =>
  have I:1≤l.length:=by
   have:l.length=512:=by simp only [cj,aJ,eu] at hg; exact hg.1
   omega
  obtain ⟨pi,po,pc,rfl⟩:=iu hv I
  refine zo rfl (cX rfl rfl) (zk 6 rfl (zo rfl (dA rfl (by rw [zJ]; rfl)) ?_))
  refine zS rfl (s.eZ (j:=1) rfl bA rfl rfl) (fun h s => ?_)
  refine zk 2 rfl ?_
  refine WP.ret ⟨aa,_,Ev rfl (s.bZ (k:=1) rfl cg bA) rfl,?_⟩
  exact ⟨s.del 1,.inl ⟨rfl,rfl⟩⟩
 | false =>
  refine zo rfl (cX rfl rfl) (zk 4 rfl (zo rfl (dA rfl (by rw [zJ]; rfl)) ?_))
  refine zS rfl (s.eZ (j:=1) rfl bA rfl rfl) (fun h s => ?_)
  refine zk 2 rfl ?_
  refine WP.ret ⟨aa,_,Ev rfl (s.bZ (k:=1) rfl cg bA) rfl,?_⟩
  exact ⟨s.del 1,.inr ⟨rfl,rfl⟩⟩
theorem iQ (I:cj l=true): l.length=512:=by simp only [cj,aJ,eu] at I; exact I.1
theorem tZ (hT:W told)(s:Sat h (X::S))(J:c8 X (c9 v l))(jQ:l.length<9223372036854775808):
  Call ⟨Tryz.prog,told⟩ 100 [v] h fun r h'=>(cj l=true∧∃u,r=.aY [.agg [u],.int .i64 0]∧Sat h' (aZ u l::X::S))∨(cj l=false∧r=.aY [.agg [.bu],.int .i64 4]∧Sat h' (X::S)):=by
 have hv:=s.aU (k:=0) rfl J
 refine Call.of_wp (hT.free _ rfl) Tryz.func100 rfl rfl (zg rfl ?_)
 refine az.cz s rfl rfl rfl (cy jC) (fun p2 h s => ?_)
 refine zk 5 rfl (zc rfl (td hT (s.ae [1]) J jQ) ?_)
 rintro r h' ⟨s,(⟨I,rfl⟩ | ⟨I,rfl⟩)⟩
 ·have Yt:=iQ I
  obtain ⟨pi,po,pc,rfl⟩:=iu hv (by omega)
  refine zk 3 rfl ?_
  refine az.cz s rfl rfl rfl (cy jC) (fun p4 h s => ?_)
  refine zS rfl (s.eZ (j:=0) rfl bA rfl rfl) (fun h s => ?_)
  refine zk 6 rfl (zh rfl (af rfl rfl aG) (rfl) (zk 4 rfl ?_))
  have s0:=s
  refine WP.drawn [ai,ai,ai,ai,some (0,2),some (0,2),ai,ai,ai,ai] rfl (by kernel_rfl) (by kernel_rfl) ?_
  refine zF rfl (gC _ _) (zL rfl (s.ld (k:=0) rfl cS rfl) (zO rfl (aT rfl rfl rfl (pZ rfl aV)) (aA.any rfl rfl rfl rfl (OpR.vt rfl s rfl rfl rfl rfl (by omega)) ?_)))
  intro u h s
  have s:=s.ae [1,1,1,0]
  have s1:=s
  refine zF rfl (gC _ _) (zL rfl (s.ld (k:=0) rfl cS rfl) (aA.any rfl rfl rfl rfl (OpR.oU rfl (s.ae [3,1]) J rfl rfl rfl rfl (by simp; omega)) ?_))
  intro u2 h s
  rw [dn] at s
  obtain ⟨sZ,_,cap,_,rfl,_⟩:=s.fB (by omega)
  have s2:=s
  refine zO rfl (dA rfl (by rw [zJ]; rfl)) ?_
  refine aA.j6 rfl rfl rfl (OpR.vm rfl rfl rfl (s.eZ (j:=3) rfl bA rfl rfl)) ?_
  rintro w h ⟨rfl,s⟩
  have s3:=s
  refine zA rfl ?_
  refine aA.nil ⟨⟨aa,aa,aa,aa,fun _ _=>.inr ⟨rfl,⟨_,jS rfl (gC _ _)⟩,aS _ rfl⟩,dB (.inr ⟨rfl,⟨_,aR rfl (s0.ld (k:=0) rfl cS rfl)⟩,aS _ rfl⟩) (.inr ⟨rfl,⟨_,aR rfl (s1.ld (k:=0) rfl cS rfl)⟩,aS _ rfl⟩),aa,aa,aa,aa,aa⟩,?_⟩
  refine WP.ret ⟨aa,_,Ev rfl (s.bZ (k:=3) rfl cg bA) rfl,?_⟩
  exact .inl ⟨I,_,rfl,(s.del 2).del 2⟩
 ·skip
  refine zk 3 rfl ?_
  refine az.cz s rfl rfl rfl (cy jC) (fun p4 h s => ?_)
  refine zS rfl (s.eZ (j:=0) rfl bA rfl rfl) (fun h s => ?_)
  refine zk 6 rfl (zt rfl (af rfl rfl aG) (rfl) (zk 4 rfl (zo rfl (dA rfl (by rw [zJ]; rfl)) ?_)))
  refine zm rfl ?_
  refine zS rfl (s.eZ (j:=2) rfl bA rfl rfl) (fun h s => ?_)
  refine zk 2 rfl ?_
  refine WP.ret ⟨aa,_,Ev rfl (s.bZ (k:=2) rfl cg bA) rfl,?_⟩
  exact .inr ⟨I,rfl,(s.del 2).del 0⟩
def nB (l:List Nat)(n:Nat): List Nat:=bk l 4 (le 8 n)
def dw (l:List Nat)(n:Nat): List Nat:=bk (nB l n) 0 (le 4 (xO 0 ((nB l n).drop 4)))
theorem v_ {n:Nat}(I:l.length=512): (nB l n).length=512:=by rw [nB,cI (by rw [cJ]; omega),I]
theorem RN (I:W told){n:Nat}(s:Sat h (X::S))(hX:c8 X (c9 v l))(jQ:l.length<9223372036854775808):
  Call ⟨Tryz.prog,told⟩ 127 [v,.int .u64 (n:Int)] h fun r h'=>(cj l=true∧∃u,r=.aY [u,.int .i64 0]∧Sat h' (aZ u (dw l n)::X::S))∨(cj l=false∧r=.aY [.bu,.int .i64 4]∧Sat h' (X::S)):=by
 refine Call.of_wp (I.free _ rfl) Tryz.func127 rfl rfl (zK 8 rfl (zc rfl (tZ I s hX jQ) ?_))
 rintro r h' (⟨hg,u,rfl,s⟩ | ⟨hg,rfl,s⟩)
 ·have J:=iQ hg
  have DP:(nB l n).length=512:=v_ J
  obtain ⟨sZ,_,cap,_,rfl,_⟩:=s.fB (by omega)
  refine zk 3 rfl ?_
  refine az.cz s rfl rfl rfl (cy jC) (fun p6 h s => ?_)
  refine zS rfl (s.eZ (j:=0) rfl bA rfl rfl) (fun h s => ?_)
  refine zk 6 rfl (zh rfl (af rfl rfl aG) (rfl) (zk 5 rfl (zl rfl (s.bZ (k:=0) rfl cg bA) (zm rfl (zc rfl (oX (a:=4) (z:=8) I (s.ae [1]) (by decide) (by decide) (by omega) (by omega)) ?_)))))
  rintro r h' ⟨rfl,s⟩
  have s:=s.ae [1,0]
  have s:Sat _ (_::aZ _ (nB l n)::_):=s
  refine zk 2 rfl ?_
  have s0:=s
  have Up:=(s.buf (k:=1) rfl).view.1
  have ec:(nB l n).length=l.length:=by omega
  rw [←ec] at *
  refine WP.drawn [some (0,2),ai,ai,ai,ai,ai,ai] rfl (by kernel_rfl) (by kernel_rfl) ?_
  refine zL rfl (s.bZ (k:=0) rfl cg bA) (zF rfl (gC _ _) (zL rfl (s.ld (k:=0) rfl cS rfl) (zO rfl (c_ (p:=some (.int .i64 4)) (q:=none) (m:=none) (p':=some 4) (q':=none) (m':=none) rfl rfl rfl rfl rfl rfl rfl (cD (s.buf (k:=1) rfl).view (a:=4) (by omega)).1) ?_)))
  refine aA.any rfl rfl rfl rfl (OpR.call rfl rfl rfl rfl (Qw I s (k:=1) rfl (zR (bz _ _) (a:=4) (by omega)) (by simp; omega))) ?_
  rintro r h' ⟨rfl,rfl⟩
  have s1:=s
  have hc:=AM (s:=0) (l:=(nB l n).drop 4) (by decide) (fun x hx=>Up x (iH hx))
  refine aA.op rfl rfl rfl (by simp only [isEff,cG]) (b9 rfl (by exact ji Tryz.underlying231 cG (ff (by omega) (by omega)))) ?_
  refine aA.any rfl rfl rfl rfl (OpR.call rfl rfl rfl rfl (oX (a:=0) (z:=4) I (s.ae [1]) (by decide) (by decide) (by omega) (by omega))) ?_
  rintro r h ⟨rfl,s⟩
  have s:=s.ae [1,0]
  refine aA.nil ⟨⟨dB (.inr ⟨rfl,⟨_,aR rfl (s0.bZ (k:=0) rfl cg bA)⟩,aS _ rfl⟩) (.inr ⟨rfl,⟨_,aR rfl (s1.bZ (k:=0) rfl cg bA)⟩,aS _ rfl⟩),aa,aa,aa,aa,aa,aa,aa⟩,?_⟩
  exact zg rfl (zf rfl (gC _ _) (zl rfl (s.ld (k:=0) rfl cS rfl) (zk 3 rfl (WP.ret ⟨aa,_,rfl,.inl ⟨hg,_,rfl,s.drop⟩⟩))))
 ·skip
  refine zk 3 rfl ?_
  refine az.cz s rfl rfl rfl (cy jC) (fun p6 h s => ?_)
  refine zS rfl (s.eZ (j:=0) rfl bA rfl rfl) (fun h s => ?_)
  exact zk 6 rfl (zt rfl (af rfl rfl aG) (rfl) (zk 8 rfl (WP.ret ⟨aa,_,rfl,.inr ⟨hg,rfl,s.drop⟩⟩)))
theorem Yu {P:Program}{E:List (Nat×V)}{d:TypeId}{x:Operand}{r:V}(I:lookO E x=some v)(J:arrPtrV P d v=some r): opE P E h (.sliceToArrayPointer d x)=some (r,h):=by simp only [opE,ju,I,J,aQ]
theorem RO {P:Program}{t:TypeId}{id off n:Nat}{cap:Cap}(hv:View h (.sl id off n cap) l)(I:b8 P t=some true)(hs:bq P t=some l.length): loadV P h t (.ptr id off)=some (.agg (ofBytes l)):=by
 have:=hv.rdN
 obtain ⟨rfl,J⟩:=this
 simp only [loadV,I,hs,J,iI]
theorem Ej : ∀(l m:List Nat),l.length=m.length→intsBeq .u8 (ofBytes l) (ofBytes m)=some (decide (l=m)):=by
 intro l
 induction l with
 | nil=>intro m hm; cases m with
  | nil=>rfl
  | cons x m=>simp at hm
 | cons x l J=>intro m hm; cases m with
  | nil=>simp at hm
  | cons y m =>
   have hi:=J m (by simpa using hm)
   simp only [ofBytes,bQ] at hi ⊢
   simp only [intsBeq,ikBeq,gA,ag,hi,lR]
   by_cases I:x=y
   ·subst I; simp
   ·have:¬ ((x:Int)=(y:Int)):=by omega
    simp [this,I]
theorem Ov : buildV Tryz.prog 239 []=some (.agg (ofBytes (List.replicate 512 0))):=by kernel_rfl
theorem Qx {P:Program}{t e:TypeId}{n:Nat}{x y:Operand}{m:List Nat}(hu:P.underlying t=some (.array n e))(he:P.underlying e=some (.int .u8))(hs:bq P e=some 1)(I:l.length=n)(hm:m.length=n):
  binV P h .eql t x y (.agg (ofBytes l)) (.agg (ofBytes m))=some (.bool (decide (l=m))):=by
 simp only [binV,eqArr,hu,he,hs,cP,I,hm,cN,gA,ag]
 rw [Ej l m (by omega)]
 rfl
def h_ (l:List Nat): Int:=if l=List.replicate 512 0 then 0 else if cj l=false then 4 else if cT l 0 4≠xO 0 (l.drop 4) then 8 else 0
theorem FL (hT:W told)(s:Sat h (X::S))(J:c8 X (c9 v l))(jQ:l.length<9223372036854775808):
  Call ⟨Tryz.prog,told⟩ 125 [v] h fun r h'=>r=.int .i64 (h_ l)∧Sat h' (X::S):=by
 have hv:=s.aU (k:=0) rfl J
 have hz:(List.replicate 512 0).length=512:=cY
 -- what follows when the page is no page of noughts
 refine Call.of_wp (hT.free _ rfl) Tryz.func125 rfl rfl (zK 8 rfl (zo rfl (aT rfl rfl rfl (bO aV (s.aU (k:=0) rfl J))) ?_))
 refine zd rfl (af rfl rfl dh) ?_ ?_
 ·intro hq
  have hq:l.length=512:=by simp at hq; omega
  obtain ⟨pi,po,pc,rfl⟩:=iu hv (by omega)
  refine zk 2 rfl (zo rfl (Yu (r:=.ptr pi po) rfl (by simp only [arrPtrV,FK]; rw [hq]; rfl)) ?_)
  refine zl rfl (RO hv VZ (by rw [hq]; exact VY)) ?_
  refine zo rfl (dA rfl Ov) ?_
  by_cases hn:l=List.replicate 512 0
  ·skip
   exact zt rfl (af rfl rfl (Qx FK Tryz.underlying5 Qi hq hz)) (decide_eq_true hn) (zk 7 rfl (WP.ret ⟨aa,_,rfl,by rw [h_,aq hn],s⟩))
  ·skip
   refine zh rfl (af rfl rfl (Qx FK Tryz.underlying5 Qi hq hz)) (decide_eq_false hn) (zk 7 rfl (zc rfl (td hT s J jQ) ?_))
   rintro r h' ⟨s,(⟨hg,rfl⟩ | ⟨hg,rfl⟩)⟩
   ·refine az.op rfl rfl rfl (bF rfl) ?_
    refine zk 2 rfl ?_
    refine az.cz s rfl rfl rfl (cy jC) (fun p3 h s => ?_)
    dsimp only [V.cells,List.length_cons,List.length_nil,Nat.reduceAdd] at s
    refine zS rfl (s.eZ (j:=0) rfl bA rfl rfl) (fun h s => ?_)
    dsimp only [setA] at s
    refine zk 3 rfl (WP.block (zK 3 rfl (zh rfl (af rfl rfl aG) (rfl) (zk 4 rfl ?_))))
    have s0:=s
    refine WP.drawn [none,none,some (0,2),some (0,2),ai,ai,ai,ai] rfl (by kernel_rfl) (by kernel_rfl) ?_
    refine zL rfl (s.bZ (k:=0) rfl cg bA) (aA.any rfl rfl rfl rfl (OpR.call rfl rfl rfl rfl (s_ hT s (k:=1) rfl J (by decide) (by decide) (by decide) (by omega) (by omega))) ?_)
    rintro r h' ⟨rfl,s⟩
    have s1:=s
    refine zM rfl (zO rfl (c_ (p:=some (.int .i64 4)) (q:=none) (m:=none) (p':=some 4) (q':=none) (m':=none) rfl rfl rfl rfl rfl rfl rfl (cD (s.aU (k:=1) rfl J) (a:=4) (by omega)).1) ?_)
    refine aA.any rfl rfl rfl rfl (OpR.call rfl rfl rfl rfl (Qw hT s (k:=1) rfl (zR J (a:=4) (by omega)) (by simp; omega))) ?_
    rintro r h' ⟨rfl,rfl⟩
    have hc:=AM (s:=0) (l:=l.drop 4) (by decide) (fun x hx=>hv.1 x (iH hx))
    have hs:∃q c,slR (V.sl pi po l.length pc) 4 l.length=.sl pi q (l.length-4) c:=by
     cases pc with
     | exact c=>exact ⟨_,_,rfl⟩
     | rest e alt=>exact ⟨_,_,rfl⟩
    obtain ⟨q,c,hs⟩:=hs
    have Qy:(slR (V.sl pi po l.length pc) 4 l.length).beq (slR (V.sl pi po l.length pc) 4 l.length)=true:=by rw [hs]; exact Bw _ _ _ _
    refine aA.op rfl rfl rfl (by simp only [isEff,bI]) (b9 rfl (by exact ji Tryz.underlying231 bI (aB (by omega) (by omega)))) ?_
    by_cases I:cT l 0 4=xO 0 (l.drop 4)
    ·skip
     refine aA.lK rfl rfl rfl rfl (af rfl rfl aG) (by simp; exact_mod_cast I) ?_
     refine zA rfl ?_
     refine aA.nil ⟨⟨aa,aa,fun _ _=>.inr ⟨rfl,⟨_,bF rfl⟩,aS _ rfl⟩,dB (.inr ⟨rfl,⟨_,c_ (p:=some (.int .i64 4)) (q:=none) (m:=none) (p':=some 4) (q':=none) (m':=none) rfl rfl rfl rfl rfl rfl rfl (cD (s0.aU (k:=1) rfl J) (a:=4) (by omega)).1⟩,Qy⟩) (.inr ⟨rfl,⟨_,c_ (p:=some (.int .i64 4)) (q:=none) (m:=none) (p':=some 4) (q':=none) (m':=none) rfl rfl rfl rfl rfl rfl rfl (cD (s1.aU (k:=1) rfl J) (a:=4) (by omega)).1⟩,Qy⟩),aa,aa,aa,aa,aa⟩,?_⟩
     refine zj rfl (WP.skip (zg rfl (za rfl (zv ?_))))
     refine WP.ret ⟨aa,_,rfl,?_⟩
     exact ⟨by rw [h_,ah hn,ah (by rw [hg]; decide),ah (by simpa using I)],s.drop⟩
    ·skip
     refine aA.qV rfl rfl rfl rfl (af rfl rfl aG) (by simp; exact_mod_cast I) ?_
     refine zA rfl ?_
     refine aA.nil ⟨⟨aa,aa,fun _ _=>.inr ⟨rfl,⟨_,bF rfl⟩,aS _ rfl⟩,dB (.inr ⟨rfl,⟨_,c_ (p:=some (.int .i64 4)) (q:=none) (m:=none) (p':=some 4) (q':=none) (m':=none) rfl rfl rfl rfl rfl rfl rfl (cD (s0.aU (k:=1) rfl J) (a:=4) (by omega)).1⟩,Qy⟩) (.inr ⟨rfl,⟨_,c_ (p:=some (.int .i64 4)) (q:=none) (m:=none) (p':=some 4) (q':=none) (m':=none) rfl rfl rfl rfl rfl rfl rfl (cD (s1.aU (k:=1) rfl J) (a:=4) (by omega)).1⟩,Qy⟩),aa,aa,aa,aa,aa⟩,?_⟩
     exact zK 5 rfl (WP.ret ⟨aa,_,rfl,by rw [h_,ah hn,ah (by rw [hg]; decide),aq I],s.drop⟩)
   ·skip
    refine zk 3 rfl ?_
    refine az.cz s rfl rfl rfl (cy jC) (fun p3 h s => ?_)
    refine zS rfl (s.eZ (j:=0) rfl bA rfl rfl) (fun h s => ?_)
    exact zk 3 rfl (WP.block (zK 3 rfl (zt rfl (af rfl rfl aG) (rfl) (zk 8 rfl (WP.ret ⟨aa,_,rfl,by rw [h_,ah hn,aq hg],s.drop⟩)))))
 ·intro hq
  have hq:l.length≠512:=by simp at hq; omega
  have hn:l≠List.replicate 512 0:=fun e=>hq (by rw [e,hz])
  have hg:cj l=false:=by rw [cj,eA hq,gT]
  refine zk 13 rfl (zc rfl (td hT s J jQ) ?_)
  rintro r h' ⟨s,(⟨Iw,rfl⟩ | ⟨_,rfl⟩)⟩
  ·rw [hg] at Iw; cases Iw
  ·refine az.op rfl rfl rfl (bF rfl) ?_
   refine zk 2 rfl ?_
   refine az.cz s rfl rfl rfl (cy jC) (fun p3 h s => ?_)
   refine zS rfl (s.eZ (j:=0) rfl bA rfl rfl) (fun h s => ?_)
   exact zk 3 rfl (WP.block (zK 3 rfl (zt rfl (af rfl rfl aG) (rfl) (zk 8 rfl (WP.ret ⟨aa,_,rfl,by rw [h_,ah hn,aq hg],s.drop⟩)))))
theorem qE {i b id off:Nat}(hv:View h v l)(hb:l[i]?=some b)(he:indexAddrV Tryz.prog 28 v (.int .i64 (i:Int))=some (.ptr id off)): loadV Tryz.prog h 5 (.ptr id off)=some (.int .u8 (b:Int)):=by
 obtain ⟨I,off',J,e2⟩:=dR hv hb
 rw [he] at J
 have e3:V.ptr id off=V.ptr I off':=bB J
 rw [e3]
 exact e2
theorem ID (hT:W told)(s:Sat h (X::S))(I:c8 X (c9 v l))(jQ:l.length<9223372036854775808):
  Call ⟨Tryz.prog,told⟩ 142 [v] h fun r h'=>Sat h' (X::S)∧((cj l=true∧r=.aY [.int .i64 (l.getD 12 0:Nat),.int .u64 (cT l 4 8),.int .i64 (cT l 18 4),.int .i64 (cT l 22 4),.int .i64 0]) ∨
   (cj l=false∧r=.aY [.int .i64 0,.int .u64 0,.int .i64 0,.int .i64 0,.int .i64 4])):=by
 have hv:=s.aU (k:=0) rfl I
 refine Call.of_wp (hT.free _ rfl) Tryz.func142 rfl rfl (zK 11 rfl (zc rfl (td hT s I jQ) ?_))
 rintro r h' ⟨s,(⟨hg,rfl⟩ | ⟨hg,rfl⟩)⟩
 ·have hq:=iQ hg
  obtain ⟨pi,po,pc,rfl⟩:=iu hv (by omega)
  have J:l[12]?=some (l[12]'(by omega)):=aN _
  generalize Ib:(l[12]'(by omega))=b at J
  have va:b<256:=hv.1 b (a_ J)
  have wP:l.getD 12 0=b:=by rw [dL,J]; rfl
  rw [wP]
  refine zk 3 rfl ?_
  refine az.cz s rfl rfl rfl (cy jC) (fun p7 h s => ?_)
  refine zS rfl (s.eZ (j:=0) rfl bA rfl rfl) (fun h s => ?_)
  refine zk 6 rfl (zh rfl (af rfl rfl aG) (rfl) (zk 4 rfl ?_))
  have s0:=s
  obtain ⟨id,off,e1,e2⟩:=dR (s.aU (k:=1) rfl I) J
  refine WP.drawn [some (0,4),some (0,4),some (0,4),some (0,4),ai,ai,ai,some (0,2),none,some (0,3),ai,ai,ai,ai,ai,ai] rfl (by kernel_rfl) (by kernel_rfl) ?_
  refine zM rfl (zO rfl (cn (r:=.ptr id off) rfl rfl e1) (zL rfl (qE (s.aU (k:=1) rfl I) J e1) (aA.op rfl rfl rfl (by simp only [isEff,bI]) (b9 rfl (by exact ji Tryz.underlying5 bI (aB (by omega) (by omega)))) ?_)))
  refine zM rfl (zO rfl (c_ (p:=some (.int .i64 4)) (q:=some (.int .i64 12)) (m:=none) (p':=some 4) (q':=some 12) (m':=none) rfl rfl rfl rfl rfl rfl rfl (fW (s.aU (k:=1) rfl I) (a:=4) (b:=12) (by omega) (by omega)).1) ?_)
  refine aA.any rfl rfl rfl rfl (OpR.call rfl rfl rfl rfl (C3 hT s (k:=1) rfl (vY I (a:=4) (b:=12) (by omega) (by omega)) (by simp; omega))) ?_
  rintro r h' ⟨rfl,rfl⟩
  have s1:=s
  refine zL rfl (s.bZ (k:=0) rfl cg bA) (aA.any rfl rfl rfl rfl (OpR.call rfl rfl rfl rfl (s_ hT s (k:=1) rfl I (by decide) (by decide) (by decide) (by omega) (by omega))) ?_)
  rintro r h' ⟨rfl,s⟩
  have s2:=s
  refine zL rfl (s.bZ (k:=0) rfl cg bA) (aA.any rfl rfl rfl rfl (OpR.call rfl rfl rfl rfl (s_ hT s (k:=1) rfl I (by decide) (by decide) (by decide) (by omega) (by omega))) ?_)
  rintro r h' ⟨rfl,s⟩
  refine zA rfl (zA rfl (zA rfl (zA rfl (zA rfl ?_))))
  refine aA.nil ⟨⟨fun _ _=>.inr ⟨rfl,⟨_,bF rfl⟩,aS _ rfl⟩,fun _ _=>.inr ⟨rfl,⟨_,cn (r:=.ptr id off) rfl rfl e1⟩,aS _ rfl⟩,T2 (.inr ⟨rfl,⟨_,aR rfl (qE (s0.aU (k:=1) rfl I) J e1)⟩,aS _ rfl⟩) (.inr ⟨rfl,⟨_,aR rfl (qE (s1.aU (k:=1) rfl I) J e1)⟩,aS _ rfl⟩) (.inr ⟨rfl,⟨_,aR rfl (qE (s2.aU (k:=1) rfl I) J e1)⟩,aS _ rfl⟩) (.inr ⟨rfl,⟨_,aR rfl (qE (s.aU (k:=1) rfl I) J e1)⟩,aS _ rfl⟩),fun _ _=>.inr ⟨rfl,⟨_,b9 rfl (by exact ji Tryz.underlying5 bI (aB (by omega) (by omega)))⟩,aS _ rfl⟩,aa,aa,aa,dB (.inr ⟨rfl,⟨_,aR rfl (s0.bZ (k:=0) rfl cg bA)⟩,aS _ rfl⟩) (.inr ⟨rfl,⟨_,aR rfl (s1.bZ (k:=0) rfl cg bA)⟩,aS _ rfl⟩),aa,vl (.inr ⟨rfl,⟨_,aR rfl (s0.bZ (k:=0) rfl cg bA)⟩,aS _ rfl⟩) (.inr ⟨rfl,⟨_,aR rfl (s1.bZ (k:=0) rfl cg bA)⟩,aS _ rfl⟩) (.inr ⟨rfl,⟨_,aR rfl (s2.bZ (k:=0) rfl cg bA)⟩,aS _ rfl⟩),aa,aa,aa,aa,aa,aa,aa⟩,?_⟩
  refine WP.ret ⟨aa,_,rfl,?_⟩
  exact ⟨s.drop,.inl ⟨hg,rfl⟩⟩
 ·skip
  refine zk 3 rfl ?_
  refine az.cz s rfl rfl rfl (cy jC) (fun p7 h s => ?_)
  refine zS rfl (s.eZ (j:=0) rfl bA rfl rfl) (fun h s => ?_)
  exact zk 6 rfl (zt rfl (af rfl rfl aG) (rfl) (zk 11 rfl (WP.ret ⟨aa,_,rfl,s.drop,.inr ⟨hg,rfl⟩⟩)))
end
structure Lg where
 base:Nat
 b:List Nat
 bD:List Nat
 forced:Nat
 check:Nat
def dH (l:List Nat): List V:=l.map fun (n:Nat)=>V.int .i64 (n:Int)
theorem eH (l:List Nat): (dH l).length=l.length:=by simp [dH]
def Uq (p base:Nat)(bv I:V)(forced check:Nat): List V:=[.ptr p 0,.int .u64 (base:Int),bv,I,.int .i64 (forced:Int),.int .u64 (check:Int)]
def bx (q p:Nat)(μ:Lg): au:=xs fun bv:V=>xs fun I:V=>star [pt q (.cells 6 (Uq p μ.base bv I μ.forced μ.check) false),aZ bv μ.b,.arr 1 I (dH μ.bD)]
structure Lg.Ok (μ:Lg): Prop where
 size:μ.base+μ.b.length≤1099511627776
 many:μ.bD.length≤16777216
 low:∀s∈μ.bD,s<μ.b.length
 we:μ.bD.Pairwise (· < ·)
 forced:μ.forced≤μ.b.length
 len:μ.b.length≤16777216
 check:μ.check≤1099511627776
theorem V_ {P:Program}{h:H}{t:TypeId}{x y:Operand}{a b:Nat}(I:a+b<4611686018427387904): binV P h .quo t x y (.int .i64 ((a:Int)+(b:Int))) (.int .i64 2)=some (.int .i64 (((a+b)/2:Nat):Int)):=by
 simp only [binV,ikBeq,ag,intV]
 rw [show intBeq 2 0=false from rfl,ay,HT (by omega),aB (by omega) (by omega)]
 congr 2
section
variable {told:cZ} {h:H} {S:List au} {X:au} {k q p:Nat} {v:V} {l:List Nat} {μ:Lg}
theorem dr : Sat h (bx q p μ::S)↔∃bv I,Sat h (pt q (.cells 6 (Uq p μ.base bv I μ.forced μ.check) false)::aZ bv μ.b::.arr 1 I (dH μ.bD)::S):=by
 simp only [bx,kz,cq,gy,dn]
theorem fY {P:Program}{t e:TypeId}{cs:List V}{i:Nat}{c:V}(s:Sat h S)(hk:getA S k=some (.arr 1 v cs))(hi:cs[i]?=some c)(hu:P.underlying t=some (.slice e))(I:bq P e=some 1):
  ∃id off,indexAddrV P t v (.int .i64 (i:Int))=some (.ptr id off)∧∀t',b8 P t'=some false→loadV P h t' (.ptr id off)=some c:=by
 have J:i<cs.length:=(List.getElem?_eq_some_iff.1 hi).1
 obtain ⟨m,r,h1,h2,h3⟩:=s.at hk
 rcases h3.2 with ⟨_,rfl⟩ | ⟨id,n,cap,N,rest,rfl,hg,e1,e2,_⟩
 ·simp at hi
 ·refine ⟨id,i,?_,fun t' ht=>Io ht (h1 _ _ hg) ?_⟩
  ·simp only [indexAddrV,hu,I,bP]
   rw [show (decide ((0:Int)≤(i:Int))&&decide ((i:Int)<(n:Int)))=true by simp; omega,ag]
   simp
  ·rw [fG,iF J,hi]
theorem DQ (I:W told)(s:Sat h (bx q p μ::S)): Call ⟨Tryz.prog,told⟩ 82 [.ptr q 0] h fun v h'=>v=.int .u64 (μ.base:Int)∧h'=h:=by
 obtain ⟨bv,J,s⟩:=dr.1 s
 exact Call.of_wp (I.free _ rfl) Tryz.func82 rfl rfl (zK 8 rfl (zf rfl (jL _ _) (zl rfl (s.ld (k:=0) rfl iP rfl) (zk 2 rfl (WP.ret ⟨aa,_,rfl,rfl,rfl⟩)))))
theorem Hj (I:W told)(s:Sat h (bx q p μ::S)): Call ⟨Tryz.prog,told⟩ 83 [.ptr q 0] h fun v h'=>v=.int .u64 (μ.check:Int)∧h'=h:=by
 obtain ⟨bv,J,s⟩:=dr.1 s
 exact Call.of_wp (I.free _ rfl) Tryz.func83 rfl rfl (zK 8 rfl (zf rfl (pW _ _) (zl rfl (s.ld (k:=0) rfl iP rfl) (zk 2 rfl (WP.ret ⟨aa,_,rfl,rfl,rfl⟩)))))
theorem qa (I:W told)(s:Sat h (bx q p μ::S))(J:μ.base+μ.b.length≤1099511627776): Call ⟨Tryz.prog,told⟩ 43 [.ptr q 0] h fun v h'=>v=.int .u64 ((μ.base:Int)+(μ.b.length:Int))∧h'=h:=by
 obtain ⟨bv,sv,s⟩:=dr.1 s
 refine Call.of_wp (I.free _ rfl) Tryz.func43 rfl rfl (zK 5 rfl (WP.drawn [ai,ai,ai,ai,ai,ai,ai,ai,ai,ai,ai,ai] rfl (by kernel_rfl) (by kernel_rfl) ?_))
 refine zM rfl (zN rfl (zF rfl (jL _ _) (zL rfl (s.ld (k:=0) rfl iP rfl) (zM rfl (zN rfl (zF rfl (jM _ _) (zL rfl (s.ld (k:=0) rfl cS rfl) (zO rfl (aT rfl rfl rfl (bO aV (s.aU (k:=1) rfl (bz _ _)))) (aA.op rfl rfl rfl (by simp only [isEff,cG]) (b9 rfl (by exact ji bI cG (ff (by omega) (by omega)))) ?_)))))))))
 refine zO rfl (af rfl rfl (by exact bg (ff (by omega) (by omega)))) ?_
 refine zA rfl ?_
 refine aA.nil ⟨⟨aa,aa,aa,aa,aa,aa,aa,aa,aa,aa,aa,aa,aa⟩,?_⟩
 refine WP.ret ⟨aa,_,rfl,?_⟩
 exact ⟨rfl,rfl⟩
theorem rC (I:W told)(s:Sat h (bx q p μ::S))(J:μ.base+μ.b.length≤1099511627776)(hf:μ.forced≤μ.b.length): Call ⟨Tryz.prog,told⟩ 129 [.ptr q 0] h fun v h'=>v=.int .u64 ((μ.base:Int)+(μ.forced:Int))∧h'=h:=by
 obtain ⟨bv,sv,s⟩:=dr.1 s
 refine Call.of_wp (I.free _ rfl) Tryz.func129 rfl rfl (zK 5 rfl (WP.drawn [ai,ai,ai,ai,ai,ai,ai,ai,ai,ai,ai] rfl (by kernel_rfl) (by kernel_rfl) ?_))
 refine zM rfl (zN rfl (zF rfl (jL _ _) (zL rfl (s.ld (k:=0) rfl iP rfl) (zM rfl (zN rfl (zF rfl (r_ _ _) (zL rfl (s.ld (k:=0) rfl cA rfl) (aA.op rfl rfl rfl (by simp only [isEff,cG]) (b9 rfl (by exact ji bI cG (ff (by omega) (by omega)))) ?_))))))))
 refine zO rfl (af rfl rfl (by exact bg (ff (by omega) (by omega)))) ?_
 refine zA rfl ?_
 refine aA.nil ⟨⟨aa,aa,aa,aa,aa,aa,aa,aa,aa,aa,aa,aa⟩,?_⟩
 refine WP.ret ⟨aa,_,rfl,?_⟩
 exact ⟨rfl,rfl⟩
def Split (μ:Lg)(n i:Nat): Prop:=i≤μ.bD.length∧(∀(j s:Nat),j<i→μ.bD[j]?=some s→μ.base+s<n)∧(∀(j s:Nat),i≤j→μ.bD[j]?=some s→n≤μ.base+s)
theorem C4 {l:List Nat}(J:l.Pairwise (· < ·)){i j a b:Nat}(I:i<j)(ha:l[i]?=some a)(hb:l[j]?=some b): a<b:=by
 obtain ⟨h1,rfl⟩:=List.getElem?_eq_some_iff.1 ha
 obtain ⟨h2,rfl⟩:=List.getElem?_eq_some_iff.1 hb
 exact List.pairwise_iff_getElem.1 J _ _ h1 h2 I
noncomputable def Z6 : Code:=cV [1,1,0,0,0] ((Tryz.f150.body).getD .skip)
theorem L1 {bv sv:V}{n:Nat}(hn:n<18446744073709551616)(I:μ.Ok)(s:Sat h (pt q (.cells 6 (Uq p μ.base bv sv μ.forced μ.check) false)::aZ bv μ.b::.arr 1 sv (dH μ.bD)::S)): ∀(fuel lo hi:Nat) (E:List (Nat×V)) (Q:Ex→List (Nat×V)→H→Prop),hi-lo≤fuel→lo≤hi→hi≤μ.bD.length →
  (∀(j s:Nat),j<lo→μ.bD[j]?=some s→μ.base+s<n)→(∀(j s:Nat),hi≤j→μ.bD[j]?=some s→n≤μ.base+s) →
  Has E [(0,.ptr q 0),(1,.int .u64 (n:Int)),(5,.int .i64 (lo:Int)),(6,.int .i64 (hi:Int))]→(∀E' i,Split μ n i→look E' 5=some (.int .i64 (i:Int))→Q (.exit 0) E' h)→WP ⟨Tryz.prog,told⟩ 39 (.loop Z6) E h Q:=by
 have zW:=I.many
 have wg:=I.size
 intro fuel
 induction fuel with
 | zero =>
  intro lo hi E Q hf h1 h2 h3 h4 hE hq
  refine WP.loop (WP.has hE (zK 5 rfl (zh rfl (af rfl rfl aK) (by simp; omega) ?_)))
  refine zk 2 rfl (WP.exit ?_)
  have e:lo=hi:=by omega
  exact hq _ lo ⟨by omega,h3,by rw [e]; exact h4⟩ rfl
 | succ fuel ih =>
  intro lo hi E Q hf h1 h2 h3 h4 hE hq
  by_cases bC:lo<hi
  ·skip
   refine WP.loop (WP.has hE (zK 5 rfl (zt rfl (af rfl rfl aK) (by simp; omega) ?_)))
   refine zk 3 rfl (WP.block (zK 4 rfl (zb rfl (by exact bg (aB (by omega) (by omega))) ?_)))
   refine zb rfl (V_ (by omega)) ?_
   refine zk 3 rfl ?_
   generalize hm:(lo+hi)/2=m
   have oT:lo≤m:=by omega
   have Dv:m<hi:=by omega
   obtain ⟨st,J⟩:∃st,μ.bD[m]?=some st:=⟨_,aN (by omega)⟩
   have sV:=I.low st (a_ J)
   have hlen:=I.len
   have hc:(dH μ.bD)[m]?=some (.int .i64 (st:Int)):=by simp [dH,J]
   obtain ⟨id,off,e1,e2⟩:=fY (P:=Tryz.prog) s (k:=2) rfl hc cM kA
   refine WP.drawn [ai,ai,ai,ai,ai,ai,ai,ai,ai,ai,ai,ai,ai,ai,ai] rfl (by kernel_rfl) (by kernel_rfl) ?_
   refine zM rfl (zN rfl (zF rfl (jL _ _) (zL rfl (s.ld (k:=0) rfl iP rfl) (zM rfl (zN rfl (zF rfl (jj _ _) (zL rfl (s.ld (k:=0) rfl pS rfl) (zM rfl (zO rfl (cn (r:=.ptr id off) rfl rfl e1) (zL rfl (e2 _ cA) (aA.op rfl rfl rfl (by simp only [isEff,cG]) (b9 rfl (by exact ji bI cG (ff (by omega) (by omega)))) ?_)))))))))))
   refine zO rfl (af rfl rfl (by exact bg (ff (by omega) (by omega)))) ?_
   refine zM rfl ?_
   by_cases tM:μ.base+st<n
   ·skip
    refine aA.qV rfl rfl rfl rfl (af rfl rfl aK) (by simp; omega) ?_
    refine aA.nil ⟨⟨aa,aa,aa,aa,aa,aa,aa,aa,aa,aa,aa,aa,aa,aa,aa,aa⟩,?_⟩
    refine zK 3 rfl (zb rfl (by exact bg (aB (by omega) (by omega))) ?_)
    refine za rfl (zv ?_)
    refine ih (m+1) hi _ Q (by omega) (by omega) h2 (fun j s hj hs => ?_) h4 ⟨rfl,rfl,rfl,rfl,aa⟩ hq
    by_cases Ur:j=m
    ·subst Ur; rw [J] at hs; injection hs with hs; omega
    ·have:=C4 I.we (show j<m by omega) hs J; omega
   ·skip
    refine aA.lK rfl rfl rfl rfl (af rfl rfl aK) (by simp; omega) ?_
    refine aA.nil ⟨⟨aa,aa,aa,aa,aa,aa,aa,aa,aa,aa,aa,aa,aa,aa,aa,aa⟩,?_⟩
    refine zj rfl (zr rfl (zk 2 rfl (zv ?_)))
    refine ih lo m _ Q (by omega) oT (by omega) h3 (fun j s hj hs => ?_) ⟨rfl,rfl,rfl,rfl,aa⟩ hq
    by_cases Ur:j=m
    ·subst Ur; rw [J] at hs; injection hs with hs; omega
    ·have:=C4 I.we (show m<j by omega) J hs; omega
  ·skip
   refine WP.loop (WP.has hE (zK 5 rfl (zh rfl (af rfl rfl aK) (by simp; omega) ?_)))
   refine zk 2 rfl (WP.exit ?_)
   have e:lo=hi:=by omega
   exact hq _ lo ⟨by omega,h3,by rw [e]; exact h4⟩ rfl
theorem C5 (hT:W told){n:Nat}(s:Sat h (bx q p μ::S))(I:μ.Ok)(hn:n<18446744073709551616): Call ⟨Tryz.prog,told⟩ 150 [.ptr q 0,.int .u64 (n:Int)] h fun v h'=>h'=h∧∃i,Split μ n i∧v=.int .i64 (i:Int):=by
 obtain ⟨bv,sv,s⟩:=dr.1 s
 refine Call.of_wp (hT.free _ rfl) Tryz.func150 rfl rfl (zK 5 rfl (WP.drawn [ai,ai,ai,ai,ai,ai,ai] rfl (by kernel_rfl) (by kernel_rfl) ?_))
 refine zM rfl (zN rfl (zF rfl (jj _ _) (zL rfl (s.ld (k:=0) rfl pS rfl) (zO rfl (aT rfl rfl rfl (s.eY (n:=μ.bD.length) (j:=2) rfl (by rw [eH,cx]) (by decide) cM)) ?_))))
 refine zA rfl (zA rfl ?_)
 refine aA.nil ⟨⟨aa,aa,aa,aa,aa,aa,aa,aa⟩,?_⟩
 refine zw (WP.block ?_)
 refine L1 hn I s μ.bD.length 0 μ.bD.length _ _ (by omega) (by omega) (by omega) (fun j s hj _=>by omega) (fun j s hj hs => ?_) ⟨rfl,rfl,rfl,rfl,aa⟩ (fun E' i hi J => ?_)
 ·rw [uE (by omega)] at hs; cases hs
 ·skip
  exact WP.has (F:=[(5,.int .i64 (i:Int))]) ⟨J,aa⟩ (zK 5 rfl (WP.ret ⟨aa,_,rfl,rfl,i,hi,rfl⟩))
def Lg.hasB (μ:Lg)(n:Nat): Bool:=μ.bD.any fun s=>decide (μ.base+s=n)
theorem Split.has {n i:Nat}(hs:Split μ n i)(hr:μ.bD.Pairwise (· < ·)): μ.hasB n=true↔∃s,μ.bD[i]?=some s∧μ.base+s=n:=by
 rw [Lg.hasB,uR]
 constructor
 ·rintro ⟨s,h1,I⟩
  have I:μ.base+s=n:=by simpa using I
  obtain ⟨j,J⟩:=uF h1
  have Ah:i≤j:=by
   rcases j8 j i with h | h
   ·have:=hs.2.1 j s h J; omega
   ·exact h
  by_cases he:i=j
  ·subst he; exact ⟨s,J,I⟩
  ·have W8:=(List.getElem?_eq_some_iff.1 J).1
   have hi:μ.bD[i]?=some (μ.bD[i]'(by omega)):=aN _
   have h3:=hs.2.2 i _ (aD _) hi
   have h4:=C4 hr (show i<j by omega) hi J
   omega
 ·rintro ⟨s,h1,I⟩
  exact ⟨s,a_ h1,by simpa using I⟩
theorem t_ {i st:Nat}(I:μ.bD[i]?=some st): (dH μ.bD)[i]?=some (.int .i64 (st:Int)):=by simp [dH,I]
theorem C6 (hT:W told){n:Nat}(s:Sat h (bx q p μ::S))(I:μ.Ok)(hn:n<18446744073709551616): Call ⟨Tryz.prog,told⟩ 136 [.ptr q 0,.int .u64 (n:Int)] h fun v h'=>h'=h∧v=.bool (μ.hasB n):=by
 have s0:=s
 obtain ⟨bv,sv,s⟩:=dr.1 s
 have zW:=I.many
 have wg:=I.size
 refine Call.of_wp (hT.free _ rfl) Tryz.func136 rfl rfl (zK 8 rfl (zc rfl (C5 hT s0 I hn) ?_))
 rintro v h' ⟨rfl,i,hi,rfl⟩
 have hh:=hi.has I.we
 refine zk 3 rfl (WP.drawn [ai,ai,ai,ai,ai,ai,ai,ai,ai,ai,ai,ai,ai,ai,ai,ai,ai,ai,ai,ai,ai,ai,ai,ai,ai] rfl (by kernel_rfl) (by kernel_rfl) ?_)
 refine zM rfl (zM rfl (zN rfl (zF rfl (jj _ _) (zL rfl (s.ld (k:=0) rfl pS rfl) (zO rfl (aT rfl rfl rfl (s.eY (n:=μ.bD.length) (j:=2) rfl (by rw [eH,cx]) (by decide) cM)) ?_)))))
 by_cases tW:i<μ.bD.length
 ·skip
  refine aA.qV rfl rfl rfl rfl (af rfl rfl aK) (by simp; omega) ?_
  obtain ⟨st,J⟩:∃st,μ.bD[i]?=some st:=⟨_,aN tW⟩
  have sV:=I.low st (a_ J)
  obtain ⟨id,off,e1,e2⟩:=fY (P:=Tryz.prog) s (k:=2) rfl (t_ J) cM kA
  refine zM rfl (zM rfl (zN rfl (zF rfl (jL _ _) (zL rfl (s.ld (k:=0) rfl iP rfl) (zM rfl (zN rfl (zF rfl (jj _ _) (zL rfl (s.ld (k:=0) rfl pS rfl) (zM rfl (zO rfl (cn (r:=.ptr id off) rfl rfl e1) (zL rfl (e2 _ cA) (aA.op rfl rfl rfl (by simp only [isEff,cG]) (b9 rfl (by exact ji bI cG (ff (by omega) (by omega)))) ?_))))))))))))
  refine zO rfl (af rfl rfl (by exact bg (ff (by omega) (by omega)))) ?_
  refine zM rfl ?_
  by_cases he:μ.base+st=n
  ·skip
   refine aA.qV rfl rfl rfl rfl (af rfl rfl dh) (by simp; omega) ?_
   refine zO rfl (ir rfl rfl) (zA rfl ?_)
   refine aA.nil ⟨⟨aa,aa,aa,aa,aa,aa,aa,aa,aa,aa,aa,aa,aa,aa,aa,aa,aa,aa,aa,aa,aa,aa,aa,aa,aa,aa⟩,?_⟩
   refine WP.ret ⟨aa,_,rfl,?_⟩
   exact ⟨rfl,by rw [hh.2 ⟨st,J,he⟩]⟩
  ·skip
   refine aA.lK rfl rfl rfl rfl (af rfl rfl dh) (by simp; omega) ?_
   refine zO rfl (ir rfl rfl) (zA rfl ?_)
   refine aA.nil ⟨⟨aa,aa,aa,aa,aa,aa,aa,aa,aa,aa,aa,aa,aa,aa,aa,aa,aa,aa,aa,aa,aa,aa,aa,aa,aa,aa⟩,?_⟩
   refine WP.ret ⟨aa,_,rfl,?_⟩
   refine ⟨rfl,?_⟩
   cases hb:μ.hasB n with
   | false=>rfl
   | true =>
    obtain ⟨s',h1,h2⟩:=hh.1 hb
    rw [J] at h1; have:=bB h1; omega
 ·skip
  refine aA.lK rfl rfl rfl rfl (af rfl rfl aK) (by simp; omega) ?_
  refine zM rfl (aA.no (e:=false) rfl rfl rfl rfl (aA.no (e:=false) rfl rfl rfl rfl (aA.no (e:=false) rfl rfl rfl rfl (aA.no (e:=false) rfl rfl rfl rfl (aA.no (e:=false) rfl rfl rfl rfl (aA.no (e:=false) rfl rfl rfl rfl (aA.no (e:=false) rfl rfl rfl rfl (aA.no (e:=false) rfl rfl rfl rfl (aA.no (e:=false) rfl rfl rfl rfl (aA.no (e:=false) rfl rfl rfl rfl (aA.no (e:=false) rfl rfl rfl rfl (aA.no (e:=false) rfl rfl rfl (by simp only [isEff,cG]) ?_))))))))))))
  refine aA.no (e:=false) rfl rfl rfl rfl (aA.no (e:=false) rfl rfl rfl rfl (aA.no (e:=false) rfl rfl rfl rfl (zO rfl (fU rfl rfl) (zA rfl ?_))))
  refine aA.nil ⟨⟨aa,aa,aa,aa,aa,aa,aa,aa,aa,aa,aa,aa,aa,aa,aa,aa,aa,aa,aa,aa,aa,aa,aa,aa,aa,aa⟩,?_⟩
  refine WP.ret ⟨aa,_,rfl,?_⟩
  refine ⟨rfl,?_⟩
  cases hb:μ.hasB n with
  | false=>rfl
  | true =>
   obtain ⟨s',h1,h2⟩:=hh.1 hb
   have:=(List.getElem?_eq_some_iff.1 h1).1
   omega
theorem L2 (hT:W told){n:Nat}(s:Sat h (bx q p μ::S))(I:μ.Ok)(hn:n<18446744073709551616): Call ⟨Tryz.prog,told⟩ 97 [.ptr q 0,.int .u64 (n:Int)] h fun v h'=>h'=h∧∃r:Nat,v=.int .u64 (r:Int) ∧
  ((r=μ.base+μ.b.length∧μ.base+μ.b.length≤n)∨(μ.hasB r=true∧r≤n)∨r=μ.base)∧(μ.hasB n=true→n<μ.base+μ.b.length→r=n):=by
 have s0:=s
 obtain ⟨bv,sv,s⟩:=dr.1 s
 have zW:=I.many
 have wg:=I.size
 refine Call.of_wp (hT.free _ rfl) Tryz.func97 rfl rfl (zK 8 rfl (zc rfl (C5 hT s0 I hn) ?_))
 rintro v h' ⟨rfl,i,hi,rfl⟩
 have hh:=hi.has I.we
 refine zk 3 rfl (WP.block (zK 4 rfl (zc rfl (qa hT s0 I.size) ?_)))
 rintro v h' ⟨rfl,rfl⟩
 by_cases FM:μ.base+μ.b.length≤n
 ·skip
  refine zt rfl (af rfl rfl jq) (by simp; omega) ?_
  refine zk 6 rfl (zc rfl (qa hT s0 I.size) ?_)
  rintro v h' ⟨rfl,rfl⟩
  exact zk 2 rfl (WP.ret ⟨aa,_,rfl,rfl,μ.base+μ.b.length,rfl,.inl ⟨rfl,FM⟩,fun _ hn=>absurd hn (by omega)⟩)
 ·skip
  refine zh rfl (af rfl rfl jq) (by simp; omega) ?_
  refine zk 4 rfl (WP.drawn [ai,ai,ai,ai,ai,ai,ai,ai,ai,ai,ai,ai,ai,ai,ai,ai,ai,ai,ai,ai,ai,ai,ai,ai,ai] rfl (by kernel_rfl) (by kernel_rfl) ?_)
  refine zM rfl (zM rfl (zN rfl (zF rfl (jj _ _) (zL rfl (s.ld (k:=0) rfl pS rfl) (zO rfl (aT rfl rfl rfl (s.eY (n:=μ.bD.length) (j:=2) rfl (by rw [eH,cx]) (by decide) cM)) ?_)))))
  by_cases tW:i<μ.bD.length
  ·skip
   refine aA.qV rfl rfl rfl rfl (af rfl rfl aK) (by simp; omega) ?_
   obtain ⟨st,gq⟩:∃st,μ.bD[i]?=some st:=⟨_,aN tW⟩
   have sV:=I.low st (a_ gq)
   obtain ⟨id,off,e1,e2⟩:=fY (P:=Tryz.prog) s (k:=2) rfl (t_ gq) cM kA
   refine zM rfl (zM rfl (zN rfl (zF rfl (jL _ _) (zL rfl (s.ld (k:=0) rfl iP rfl) (zM rfl (zN rfl (zF rfl (jj _ _) (zL rfl (s.ld (k:=0) rfl pS rfl) (zM rfl (zO rfl (cn (r:=.ptr id off) rfl rfl e1) (zL rfl (e2 _ cA) (aA.op rfl rfl rfl (by simp only [isEff,cG]) (b9 rfl (by exact ji bI cG (ff (by omega) (by omega)))) ?_))))))))))))
   refine zO rfl (af rfl rfl (by exact bg (ff (by omega) (by omega)))) ?_
   refine zM rfl ?_
   by_cases he:μ.base+st=n
   ·skip
    refine aA.qV rfl rfl rfl rfl (af rfl rfl dh) (by simp; omega) ?_
    refine zO rfl (ir rfl rfl) (zA rfl ?_)
    refine aA.nil ⟨⟨aa,aa,aa,aa,aa,aa,aa,aa,aa,aa,aa,aa,aa,aa,aa,aa,aa,aa,aa,aa,aa,aa,aa,aa,aa,aa⟩,?_⟩
    exact zK 6 rfl (WP.ret ⟨aa,_,rfl,rfl,n,rfl,.inr (.inl ⟨hh.2 ⟨st,gq,he⟩,aD _⟩),fun _ _=>rfl⟩)
   ·skip
    refine aA.lK rfl rfl rfl rfl (af rfl rfl dh) (by simp; omega) ?_
    refine zO rfl (ir rfl rfl) (zA rfl ?_)
    refine aA.nil ⟨⟨aa,aa,aa,aa,aa,aa,aa,aa,aa,aa,aa,aa,aa,aa,aa,aa,aa,aa,aa,aa,aa,aa,aa,aa,aa,aa⟩,?_⟩
    refine zK 4 rfl ?_
    have Us:¬μ.hasB n=true:=fun hb=>by
     obtain ⟨s',h1,h2⟩:=hh.1 hb
     rw [gq] at h1; have:=bB h1; omega
    by_cases Xc:i=0
    ·skip
     refine zt rfl (af rfl rfl dh) (by simp; omega) ?_
     exact zk 7 rfl (zf rfl (jL _ _) (zl rfl (s.ld (k:=0) rfl iP rfl) (zk 2 rfl (WP.ret ⟨aa,_,rfl,rfl,μ.base,rfl,.inr (.inr rfl),fun hb _=>absurd hb (Us)⟩))))
    ·skip
     refine zh rfl (af rfl rfl dh) (by simp; omega) ?_
     refine za rfl (zv (zj rfl (WP.skip (zw ?_))))
     obtain ⟨s2,J⟩:∃st,μ.bD[i-1]?=some st:=⟨_,aN (by omega)⟩
     have lM:=I.low s2 (a_ J)
     obtain ⟨id,off,e1,e2⟩:=fY (P:=Tryz.prog) s (k:=2) rfl (t_ J) cM kA
     rw [show ((i-1:Nat):Int)=(i:Int)-1 by omega] at e1
     refine WP.drawn [ai,ai,ai,ai,ai,ai,ai,ai,ai,ai,ai,ai,ai,ai,ai] rfl (by kernel_rfl) (by kernel_rfl) ?_
     refine zM rfl (zN rfl (zF rfl (jL _ _) (zL rfl (s.ld (k:=0) rfl iP rfl) (zM rfl (zN rfl (zF rfl (jj _ _) (zL rfl (s.ld (k:=0) rfl pS rfl) (zM rfl (zO rfl (af rfl rfl (by exact iB (aB (by omega) (by omega)))) ?_)))))))))
     refine zO rfl (cn (r:=.ptr id off) rfl rfl e1) (zL rfl (e2 _ cA) (aA.op rfl rfl rfl (by simp only [isEff,cG]) (b9 rfl (by exact ji bI cG (ff (by omega) (by omega)))) ?_))
     refine zO rfl (af rfl rfl (by exact bg (ff (by omega) (by omega)))) ?_
     refine zA rfl ?_
     refine aA.nil ⟨⟨aa,aa,aa,aa,aa,aa,aa,aa,aa,aa,aa,aa,aa,aa,aa,aa⟩,?_⟩
     refine WP.ret ⟨aa,_,rfl,?_⟩
     have bC:=hi.2.1 (i-1) s2 (by omega) J
     refine ⟨rfl,μ.base+s2,rfl,.inr (.inl ⟨?_,by omega⟩),fun hb _=>absurd hb Us⟩
     rw [Lg.hasB,uR]
     exact ⟨s2,a_ J,by simp⟩
  ·skip
   refine aA.lK rfl rfl rfl rfl (af rfl rfl aK) (by simp; omega) ?_
   refine zM rfl (aA.no (e:=false) rfl rfl rfl rfl (aA.no (e:=false) rfl rfl rfl rfl (aA.no (e:=false) rfl rfl rfl rfl (aA.no (e:=false) rfl rfl rfl rfl (aA.no (e:=false) rfl rfl rfl rfl (aA.no (e:=false) rfl rfl rfl rfl (aA.no (e:=false) rfl rfl rfl rfl (aA.no (e:=false) rfl rfl rfl rfl (aA.no (e:=false) rfl rfl rfl rfl (aA.no (e:=false) rfl rfl rfl rfl (aA.no (e:=false) rfl rfl rfl rfl (aA.no (e:=false) rfl rfl rfl (by simp only [isEff,cG]) ?_))))))))))))
   refine aA.no (e:=false) rfl rfl rfl rfl (aA.no (e:=false) rfl rfl rfl rfl (aA.no (e:=false) rfl rfl rfl rfl (zO rfl (fU rfl rfl) (zA rfl ?_))))
   refine aA.nil ⟨⟨aa,aa,aa,aa,aa,aa,aa,aa,aa,aa,aa,aa,aa,aa,aa,aa,aa,aa,aa,aa,aa,aa,aa,aa,aa,aa⟩,?_⟩
   refine zK 4 rfl ?_
   have Ut:¬μ.hasB n=true:=fun hb=>by
    obtain ⟨s',h1,h2⟩:=hh.1 hb
    have:=(List.getElem?_eq_some_iff.1 h1).1
    omega
   by_cases Xc:i=0
   ·skip
    refine zt rfl (af rfl rfl dh) (by simp; omega) ?_
    exact zk 7 rfl (zf rfl (jL _ _) (zl rfl (s.ld (k:=0) rfl iP rfl) (zk 2 rfl (WP.ret ⟨aa,_,rfl,rfl,μ.base,rfl,.inr (.inr rfl),fun hb _=>absurd hb (Ut)⟩))))
   ·skip
    refine zh rfl (af rfl rfl dh) (by simp; omega) ?_
    refine za rfl (zv (zj rfl (WP.skip (zw ?_))))
    have jk:=hi.1
    obtain ⟨s2,J⟩:∃st,μ.bD[i-1]?=some st:=⟨_,aN (by omega)⟩
    have lM:=I.low s2 (a_ J)
    obtain ⟨id,off,e1,e2⟩:=fY (P:=Tryz.prog) s (k:=2) rfl (t_ J) cM kA
    rw [show ((i-1:Nat):Int)=(i:Int)-1 by omega] at e1
    refine WP.drawn [ai,ai,ai,ai,ai,ai,ai,ai,ai,ai,ai,ai,ai,ai,ai] rfl (by kernel_rfl) (by kernel_rfl) ?_
    refine zM rfl (zN rfl (zF rfl (jL _ _) (zL rfl (s.ld (k:=0) rfl iP rfl) (zM rfl (zN rfl (zF rfl (jj _ _) (zL rfl (s.ld (k:=0) rfl pS rfl) (zM rfl (zO rfl (af rfl rfl (by exact iB (aB (by omega) (by omega)))) ?_)))))))))
    refine zO rfl (cn (r:=.ptr id off) rfl rfl e1) (zL rfl (e2 _ cA) (aA.op rfl rfl rfl (by simp only [isEff,cG]) (b9 rfl (by exact ji bI cG (ff (by omega) (by omega)))) ?_))
    refine zO rfl (af rfl rfl (by exact bg (ff (by omega) (by omega)))) ?_
    refine zA rfl ?_
    refine aA.nil ⟨⟨aa,aa,aa,aa,aa,aa,aa,aa,aa,aa,aa,aa,aa,aa,aa,aa⟩,?_⟩
    refine WP.ret ⟨aa,_,rfl,?_⟩
    have bC:=hi.2.1 (i-1) s2 (by omega) J
    refine ⟨rfl,μ.base+s2,rfl,.inr (.inl ⟨?_,by omega⟩),fun hb _=>absurd hb Ut⟩
    rw [Lg.hasB,uR]
    exact ⟨s2,a_ J,by simp⟩
def gN (base check:Nat): List Nat:=le 8 base++le 8 check
theorem ua (a b:Nat): (gN a b).length=16:=by simp [gN,cJ]
theorem BN (I:W told){a b:Nat}(s:Sat h S): Call ⟨Tryz.prog,told⟩ 149 [.ptr q 0,.int .u64 (a:Int),.int .u64 (b:Int)] h fun v h'=>Sat h' (aZ v (gN a b)::S):=by
 refine Call.of_wp (I.free _ rfl) Tryz.func149 rfl rfl (zK 7 rfl (zc rfl (tc I s.sW (by decide) (by simp)) ?_))
 intro v h s
 refine zm rfl (zc rfl (tc I s (by decide) (by simp [cJ])) ?_)
 intro v h s
 exact zk 2 rfl (WP.ret ⟨aa,_,rfl,s⟩)
theorem L3 (hT:W told){n:Nat}{δ:Dk}(s:Sat h (bx q p μ::aL p δ::S))(I:μ.Ok)(hf:δ.bj<4294967296): Call ⟨Tryz.prog,told⟩ 79 [.ptr q 0,.int .u64 (n:Int)] h fun v h' =>
  (n<μ.base+μ.forced∧v=.int .i64 0∧Sat h' (bx q p μ::aL p δ::S)) ∨
  (μ.base+μ.forced≤n∧δ.dead=true∧v=.int .i64 9∧Sat h' (bx q p μ::aL p δ::S)) ∨
  (μ.base+μ.forced≤n∧δ.dead=false∧δ.bj=0∧v=.int .i64 9∧Sat h' (bx q p μ::aL p δ.die::S)) ∨
  (μ.base+μ.forced≤n∧δ.dead=false∧δ.bj≠0∧v=.int .i64 0∧Sat h' (bx q p { μ with forced:=μ.b.length }::aL p { δ.c6 with bT:=δ.log.length }::S)):=by
 have wg:=I.size
 have Xd:=I.forced
 have s0:=s
 obtain ⟨bv,sv,s⟩:=dr.1 s
 refine Call.of_wp (hT.free _ rfl) Tryz.func79 rfl rfl (zK 9 rfl (zc rfl (rC hT s0 I.size I.forced) ?_))
 rintro v h' ⟨rfl,rfl⟩
 by_cases bC:n<μ.base+μ.forced
 ·skip
  refine zt rfl (af rfl rfl aK) (by simp; omega) ?_
  exact zk 6 rfl (WP.ret ⟨aa,_,rfl,.inl ⟨bC,rfl,s0⟩⟩)
 ·have hle:μ.base+μ.forced≤n:=by omega
  refine zh rfl (af rfl rfl aK) (by simp; omega) ?_
  refine zk 8 rfl (zf rfl (oz _ _) (zl rfl (s.ld (k:=0) rfl jU rfl) (zc rfl (LW hT (s0.ae [1]) hf) ?_)))
  rintro v h (⟨J,rfl,s⟩ | ⟨J,h0,rfl,s⟩ | ⟨J,h0,rfl,s⟩)
  ·refine az.op rfl rfl rfl (gj rfl) ?_
   exact zk 4 rfl (zt rfl (af rfl rfl aG) (rfl) (zk 7 rfl (WP.ret ⟨aa,_,rfl,.inr (.inl ⟨hle,J,rfl,s.ae [1]⟩)⟩)))
  ·skip
   exact zk 5 rfl (zt rfl (af rfl rfl aG) (rfl) (zk 7 rfl (WP.ret ⟨aa,_,rfl,.inr (.inr (.inl ⟨hle,J,h0,rfl,s.ae [1]⟩))⟩)))
  ·skip
   obtain ⟨bv,sv,s⟩:=dr.1 (s.ae [1])
   refine zk 5 rfl (zh rfl (af rfl rfl aG) (rfl) (zk 8 rfl (zf rfl (jM _ _) (zl rfl (s.ld (k:=0) rfl cS rfl) (zo rfl (aT rfl rfl rfl (bO aV (s.aU (k:=1) rfl (bz _ _)))) (zn rfl (zf rfl (r_ _ _) ?_)))))))
   refine zS rfl (by exact s.gO (k:=0) rfl kA rfl (by decide) rfl rfl) (fun h s => ?_)
   exact zk 5 rfl (WP.ret ⟨aa,_,rfl,.inr (.inr (.inr ⟨hle,J,h0,rfl,dr.2 ⟨bv,sv,s⟩⟩))⟩)
theorem L4 (hT:W told){n:Nat}{δ:Dk}(s:Sat h (bx q p μ::aL p δ::S))(I:μ.Ok)(hf:δ.bj<4294967296)(hn:n<18446744073709551616): Call ⟨Tryz.prog,told⟩ 96 [.ptr q 0,.int .u64 (n:Int)] h fun v h' =>
  (¬(μ.hasB n=true∧n<μ.base+μ.forced)∧v=.int .i64 1∧Sat h' (bx q p μ::aL p δ::S)) ∨
  (μ.hasB n=true∧n<μ.base+μ.forced∧δ.dead=true∧v=.int .i64 9∧Sat h' (bx q p μ::aL p δ::S)) ∨
  (μ.hasB n=true∧n<μ.base+μ.forced∧δ.dead=false∧δ.bj=0∧v=.int .i64 9∧Sat h' (bx q p μ::aL p δ.die::S)) ∨
  (μ.hasB n=true∧n<μ.base+μ.forced∧δ.dead=false∧δ.bj≠0∧v=.int .i64 0∧Sat h' (bx q p { μ with check:=n }::aL p { δ.c6 with mark:=gN μ.base n }::S)):=by
 have wg:=I.size
 have Xd:=I.forced
 have s0:=s
 refine Call.of_wp (hT.free _ rfl) Tryz.func96 rfl rfl (zK 9 rfl (zc rfl (C6 hT s0 I hn) ?_))
 rintro v h' ⟨rfl,rfl⟩
 cases hh:μ.hasB n with
 | false =>
  exact zo rfl (cX rfl rfl) (zk 12 rfl (WP.ret ⟨aa,_,rfl,.inl ⟨fun e=>by simp at e,rfl,s0⟩⟩))
 | true =>
  refine zo rfl (cX rfl rfl) (zk 3 rfl (zc rfl (rC hT s0 I.size I.forced) ?_))
  rintro v h' ⟨rfl,rfl⟩
  by_cases J:n<μ.base+μ.forced
  ·skip
   refine zh rfl (af rfl rfl jq) (by simp; omega) ?_
   refine zk 6 rfl ?_
   obtain ⟨bv,sv,s⟩:=dr.1 s
   have s1:=s
   refine WP.drawn [some (0,2),some (0,2),some (0,2),some (0,2),ai,ai,ai,ai,ai,ai,ai,ai,ai] rfl (by kernel_rfl) (by kernel_rfl) ?_
   refine zM rfl (zN rfl (zF rfl (oz _ _) (zL rfl (s.ld (k:=0) rfl jU rfl) (zM rfl (zM rfl (zN rfl (zF rfl (jL _ _) (zL rfl (s.ld (k:=0) rfl iP rfl) (zM rfl (aA.any rfl rfl rfl rfl (OpR.call rfl rfl rfl rfl (BN (q:=q) (a:=μ.base) (b:=n) hT s)) ?_))))))))))
   intro mv h s
   have s:=s.ae [1,1,1,1,0]
   have s2:=s
   refine aA.any rfl rfl rfl rfl (OpR.call rfl rfl rfl rfl (Oo hT (s.ae [3,3]) (bz _ _) hf)) ?_
   rintro v h hr
   rw [ua] at hr
   rcases hr with (⟨hd,rfl,s⟩ | ⟨_,hl,_,_⟩ | ⟨hd,_,h0,rfl,s⟩ | ⟨hd,_,h0,rfl,s⟩)
   ·have s:=(s.del 1).ae [1,1,1,0]
    refine zA rfl ?_
    refine aA.nil ⟨⟨fun _ _=>.inr ⟨rfl,⟨_,bF rfl⟩,aS _ rfl⟩,fun _ _=>.inr ⟨rfl,⟨_,ni rfl⟩,aS _ rfl⟩,fun _ _=>.inr ⟨rfl,⟨_,jS rfl (oz _ _)⟩,aS _ rfl⟩,dB (.inr ⟨rfl,⟨_,aR rfl (s1.ld (k:=0) rfl jU rfl)⟩,aS _ rfl⟩) (.inr ⟨rfl,⟨_,aR rfl (s2.ld (k:=0) rfl jU rfl)⟩,aS _ rfl⟩),aa,aa,aa,aa,aa,aa,aa,aa,aa,aa⟩,?_⟩
    exact zK 3 rfl (zt rfl (af rfl rfl aG) (rfl) (zk 7 rfl (WP.ret ⟨aa,_,rfl,.inr (.inl ⟨rfl,J,hd,rfl,dr.2 ⟨bv,sv,s⟩⟩)⟩)))
   ·omega
   ·have s:=(s.del 1).ae [1,1,1,0]
    refine zA rfl ?_
    refine aA.nil ⟨⟨fun _ _=>.inr ⟨rfl,⟨_,bF rfl⟩,aS _ rfl⟩,fun _ _=>.inr ⟨rfl,⟨_,ni rfl⟩,aS _ rfl⟩,fun _ _=>.inr ⟨rfl,⟨_,jS rfl (oz _ _)⟩,aS _ rfl⟩,dB (.inr ⟨rfl,⟨_,aR rfl (s1.ld (k:=0) rfl jU rfl)⟩,aS _ rfl⟩) (.inr ⟨rfl,⟨_,aR rfl (s2.ld (k:=0) rfl jU rfl)⟩,aS _ rfl⟩),aa,aa,aa,aa,aa,aa,aa,aa,aa,aa⟩,?_⟩
    exact zK 3 rfl (zt rfl (af rfl rfl aG) (rfl) (zk 7 rfl (WP.ret ⟨aa,_,rfl,.inr (.inr (.inl ⟨rfl,J,hd,h0,rfl,dr.2 ⟨bv,sv,s⟩⟩))⟩)))
   ·have s:=(s.del 1).ae [1,1,1,0]
    refine zA rfl ?_
    refine aA.nil ⟨⟨fun _ _=>.inr ⟨rfl,⟨_,bF rfl⟩,aS _ rfl⟩,fun _ _=>.inr ⟨rfl,⟨_,ni rfl⟩,aS _ rfl⟩,fun _ _=>.inr ⟨rfl,⟨_,jS rfl (oz _ _)⟩,aS _ rfl⟩,dB (.inr ⟨rfl,⟨_,aR rfl (s1.ld (k:=0) rfl jU rfl)⟩,aS _ rfl⟩) (.inr ⟨rfl,⟨_,aR rfl (s2.ld (k:=0) rfl jU rfl)⟩,aS _ rfl⟩),aa,aa,aa,aa,aa,aa,aa,aa,aa,aa⟩,?_⟩
    refine zK 3 rfl (zh rfl (af rfl rfl aG) (rfl) (zk 8 rfl (zf rfl (pW _ _) ?_)))
    refine zS rfl (by exact s.gO (k:=0) rfl AI rfl (by decide) rfl rfl) (fun h s => ?_)
    exact zk 5 rfl (WP.ret ⟨aa,_,rfl,.inr (.inr (.inr ⟨rfl,J,hd,h0,rfl,dr.2 ⟨bv,sv,s⟩⟩))⟩)
  ·skip
   refine zt rfl (af rfl rfl jq) (by simp; omega) ?_
   exact zk 7 rfl (WP.ret ⟨aa,_,rfl,.inl ⟨fun e=>J e.2,rfl,s0⟩⟩)
end
end Go.Proofs.YtefepnnfphdkpaaGreat.Am
