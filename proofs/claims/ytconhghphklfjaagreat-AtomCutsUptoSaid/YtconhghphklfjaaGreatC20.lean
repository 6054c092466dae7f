/- AtomCuts: a part of its proof; conditions: its statement's. -/
import Derived.Test.YtconhghphklfjaaGreatC19
set_option linter.defProp false
namespace Go.Proofs.YtconhghphklfjaaGreat.Am
open Go
def Hl:=@Tryz.underlying151
section
variable {told:dH} {h:H} {S:List ax} {X:ax} {k:Nat} {v:V} {l:List Nat}
theorem wu (I:W told){n z:Nat}(s:Sat h (bH v l::S))(J:z≤8)(U:l.length+z≤140737488355328):
  Call ⟨Tryz.prog,told⟩ 67 [v,.int .i64 (z:Int),.int .u64 (n:Int)] h fun r h'=>Sat h' (bH r (l++le z n)::S) :=
 (NG I.Sk s.wf (s.buf (k:=0) rfl) J U).mono fun _ _ ⟨h1,h2,h3⟩=>s.AB h2 h1 h3
theorem NN (hT:W told){a z n:Nat}(s:Sat h (bH v l::S))(hz:1≤z)(Hj:z≤8)(U:a+z≤l.length)(lI:l.length≤65536):
  Call ⟨Tryz.prog,told⟩ 130 [.agg [v],.int .i64 (a:Int),.int .i64 (z:Int),.int .u64 (n:Int)] h fun r h'=>r=.bD []∧Sat h' (bH v (c9 l a (le z n))::S):=by
 obtain ⟨I,_,cap,_,rfl,_⟩:=s.kB (by omega)
 refine Call.of_wp (hT.free _ rfl) Tryz.func130 rfl rfl (zg rfl ?_)
 refine aB.cQ s rfl rfl rfl (gC rfl rfl) (fun p4 h s => ?_)
 refine zv ?_
 have s0:=s
 refine WP.drawn [some (0,2),some (0,2),some (0,2),some (0,2),some (0,2),some (0,2),some (0,2),ai,ai,ai,ai] rfl (by kernel_rfl) (by kernel_rfl) ?_
 refine zF rfl (pN _ _) (zL rfl (s.ld (k:=0) rfl bL rfl) (zM rfl (zM rfl (zM rfl (zO rfl (ah rfl rfl (by exact bQ (aU (by omega) (by omega)))) ?_)))))
 have ez:((a:Int)+(z:Int)).toNat=a+z:=by omega
 have ea:((a:Int)).toNat=a:=by omega
 refine zO rfl (cD (p:=some (.int .i64 (a:Int))) (q:=some (.int .i64 ((a:Int)+(z:Int)))) (m:=none) (p':=some a) (q':=some (a+z)) (m':=none) rfl rfl rfl rfl (by rw [fK (by omega),ea]) (by rw [fK (by omega),ez]) rfl (iI (s.buf (k:=1) rfl).view (by omega) U).1) ?_
 refine zM rfl (zM rfl (aA.any rfl rfl rfl rfl (OpR.call rfl rfl rfl rfl (wu hT s.yQ Hj (by simp; omega))) ?_))
 intro u h s
 have s:=s.ae [1,1,0]
 dsimp only [List.nil_append,V.cells,List.length_cons,List.length_nil,Nat.reduceAdd,bringA,getA,aT] at s
 have s1:=s
 refine aA.any rfl rfl rfl rfl (OpR.XQ rfl (s.ae [1,1]) (bE _ _) rfl rfl rfl rfl (by omega) U (by simp [cX]; omega)) ?_
 intro r h s
 have hs:∃q c,slR (V.sl I 0 l.length cap) a (a+z)=.sl I q (a+z-a) c:=by
  cases cap with
  | exact c=>exact ⟨_,_,rfl⟩
  | rest e alt=>exact ⟨_,_,rfl⟩
 obtain ⟨q,c,hs⟩:=hs
 have J:(slR (V.sl I 0 l.length cap) a (a+z)).beq (slR (V.sl I 0 l.length cap) a (a+z))=true:=by rw [hs]; exact CC _ _ _ _
 refine aA.nil ⟨⟨fun _ _=>.inr ⟨rfl,⟨_,jE rfl (pN _ _)⟩,aW _ rfl⟩,dO (.inr ⟨rfl,⟨_,aV rfl (s0.ld (k:=0) rfl bL rfl)⟩,aW _ rfl⟩) (.inr ⟨rfl,⟨_,aV rfl (s1.ld (k:=0) rfl bL rfl)⟩,aW _ rfl⟩),fun _ _=>.inr ⟨rfl,⟨_,bk rfl⟩,aW _ rfl⟩,fun _ _=>.inr ⟨rfl,⟨_,bk rfl⟩,aW _ rfl⟩,fun _ _=>.inr ⟨rfl,⟨_,bk rfl⟩,aW _ rfl⟩,fun _ _=>.inr ⟨rfl,⟨_,ah rfl rfl (by exact bQ (aU (by omega) (by omega)))⟩,aW _ rfl⟩,dO (.inr ⟨rfl,⟨_,cD (p:=some (.int .i64 (a:Int))) (q:=some (.int .i64 ((a:Int)+(z:Int)))) (m:=none) (p':=some a) (q':=some (a+z)) (m':=none) rfl rfl rfl rfl (by rw [fK (by omega),ea]) (by rw [fK (by omega),ez]) rfl (iI (s0.buf (k:=1) rfl).view (by omega) U).1⟩,J⟩) (.inr ⟨rfl,⟨_,cD (p:=some (.int .i64 (a:Int))) (q:=some (.int .i64 ((a:Int)+(z:Int)))) (m:=none) (p':=some a) (q':=some (a+z)) (m':=none) rfl rfl rfl rfl (by rw [fK (by omega),ea]) (by rw [fK (by omega),ez]) rfl (iI (s1.buf (k:=1) rfl).view (by omega) U).1⟩,J⟩),aa,aa,aa,aa,aa⟩,?_⟩
 refine ⟨aa,_,rfl,rfl,?_⟩
 rw [show a+z-a=z by omega,fL (by rw [cX]; omega)] at s
 exact (s.del 1).del 1
theorem CX (U:W told)(s:Sat h (X::S))(hX:cT X (cU v l))(J:l.length<9223372036854775808):
  Call ⟨Tryz.prog,told⟩ 82 [v] h fun r h'=>Sat h' (X::S)∧((bU l=true∧r=.bD [.agg [v],.int .i64 0])∨(bU l=false∧r=.bD [.agg [.bz],.int .i64 4])):=by
 have hv:=s.aG (k:=0) rfl hX
 refine Call.of_wp (U.free _ rfl) Tryz.func82 rfl rfl (zg rfl ?_)
 refine aB.cQ s rfl rfl rfl (cC oG) (fun p2 h s => ?_)
 refine zk 6 rfl (zc rfl (Kh U (s.ae [1]) hX J) ?_)
 rintro r h' ⟨rfl,s⟩
 cases hg:bU l with
 | true =>
  have I:1≤l.length:=by
   have:l.length=512:=by simp only [bU,aY,ej] at hg; exact hg.1
   omega
  obtain ⟨pi,po,pc,rfl⟩:=kC hv I
  refine zo rfl (dX rfl rfl) (zk 6 rfl (zo rfl (c7 rfl (by rw [CM]; rfl)) ?_))
  refine zS rfl (s.g9 (j:=1) rfl dV rfl rfl) (fun h s => ?_)
  refine zk 2 rfl ?_
  refine WP.ret ⟨aa,_,F2 rfl (s.fG (k:=1) rfl gG dV) rfl,?_⟩
  exact ⟨s.del 1,.inl ⟨rfl,rfl⟩⟩
 | false =>
  refine zo rfl (dX rfl rfl) (zk 4 rfl (zo rfl (c7 rfl (by rw [CM]; rfl)) ?_))
  refine zS rfl (s.g9 (j:=1) rfl dV rfl rfl) (fun h s => ?_)
  refine zk 2 rfl ?_
  refine WP.ret ⟨aa,_,F2 rfl (s.fG (k:=1) rfl gG dV) rfl,?_⟩
  exact ⟨s.del 1,.inr ⟨rfl,rfl⟩⟩
theorem fA (I:bU l=true): l.length=512:=by simp only [bU,aY,ej] at I; exact I.1
theorem NO (hT:W told)(s:Sat h (X::S))(J:cT X (cU v l))(U:l.length<9223372036854775808):
  Call ⟨Tryz.prog,told⟩ 129 [v] h fun r h'=>(bU l=true∧∃u,r=.bD [.agg [u],.int .i64 0]∧Sat h' (bH u l::X::S))∨(bU l=false∧r=.bD [.agg [.bz],.int .i64 4]∧Sat h' (X::S)):=by
 have hv:=s.aG (k:=0) rfl J
 refine Call.of_wp (hT.free _ rfl) Tryz.func129 rfl rfl (zg rfl ?_)
 refine aB.cQ s rfl rfl rfl (cC oG) (fun p2 h s => ?_)
 refine zk 5 rfl (zc rfl (CX hT (s.ae [1]) J U) ?_)
 rintro r h' ⟨s,(⟨I,rfl⟩ | ⟨I,rfl⟩)⟩
 ·have aap:=fA I
  obtain ⟨pi,po,pc,rfl⟩:=kC hv (by omega)
  refine zk 3 rfl ?_
  refine aB.cQ s rfl rfl rfl (cC oG) (fun p4 h s => ?_)
  refine zS rfl (s.g9 (j:=0) rfl dV rfl rfl) (fun h s => ?_)
  refine zk 6 rfl (zh rfl (ah rfl rfl aX) (rfl) (zk 4 rfl ?_))
  have s0:=s
  refine WP.drawn [ai,ai,ai,ai,some (0,2),some (0,2),ai,ai,ai,ai] rfl (by kernel_rfl) (by kernel_rfl) ?_
  refine zF rfl (pN _ _) (zL rfl (s.ld (k:=0) rfl bL rfl) (zO rfl (a_ rfl rfl rfl (pQ rfl aS)) (aA.any rfl rfl rfl rfl (OpR.wo rfl s rfl rfl rfl rfl (by omega)) ?_)))
  intro u h s
  have s:=s.ae [1,1,1,0]
  have s1:=s
  refine zF rfl (pN _ _) (zL rfl (s.ld (k:=0) rfl bL rfl) (aA.any rfl rfl rfl rfl (OpR.oL rfl (s.ae [3,1]) J rfl rfl rfl rfl (by simp; omega)) ?_))
  intro u2 h s
  rw [cW] at s
  obtain ⟨yb,_,cap,_,rfl,_⟩:=s.kB (by omega)
  have s2:=s
  refine zO rfl (c7 rfl (by rw [CM]; rfl)) ?_
  refine aA.g8 rfl rfl rfl (OpR.d_ rfl rfl rfl (s.g9 (j:=3) rfl dV rfl rfl)) ?_
  rintro w h ⟨rfl,s⟩
  have s3:=s
  refine zA rfl ?_
  refine aA.nil ⟨⟨aa,aa,aa,aa,fun _ _=>.inr ⟨rfl,⟨_,jE rfl (pN _ _)⟩,aW _ rfl⟩,dO (.inr ⟨rfl,⟨_,aV rfl (s0.ld (k:=0) rfl bL rfl)⟩,aW _ rfl⟩) (.inr ⟨rfl,⟨_,aV rfl (s1.ld (k:=0) rfl bL rfl)⟩,aW _ rfl⟩),aa,aa,aa,aa,aa⟩,?_⟩
  refine WP.ret ⟨aa,_,F2 rfl (s.fG (k:=3) rfl gG dV) rfl,?_⟩
  exact .inl ⟨I,_,rfl,(s.del 2).del 2⟩
 ·skip
  refine zk 3 rfl ?_
  refine aB.cQ s rfl rfl rfl (cC oG) (fun p4 h s => ?_)
  refine zS rfl (s.g9 (j:=0) rfl dV rfl rfl) (fun h s => ?_)
  refine zk 6 rfl (zt rfl (ah rfl rfl aX) (rfl) (zk 4 rfl (zo rfl (c7 rfl (by rw [CM]; rfl)) ?_)))
  refine zm rfl ?_
  refine zS rfl (s.g9 (j:=2) rfl dV rfl rfl) (fun h s => ?_)
  refine zk 2 rfl ?_
  refine WP.ret ⟨aa,_,F2 rfl (s.fG (k:=2) rfl gG dV) rfl,?_⟩
  exact .inr ⟨I,rfl,(s.del 2).del 0⟩
def m_ (l:List Nat)(n:Nat): List Nat:=c9 l 4 (le 8 n)
def cO (l:List Nat)(n:Nat): List Nat:=c9 (m_ l n) 0 (le 4 (yX 0 ((m_ l n).drop 4)))
theorem xj {n:Nat}(I:l.length=512): (m_ l n).length=512:=by rw [m_,iJ (by rw [cX]; omega),I]
theorem Ki (I:W told){n:Nat}(s:Sat h (X::S))(hX:cT X (cU v l))(lI:l.length<9223372036854775808):
  Call ⟨Tryz.prog,told⟩ 98 [v,.int .u64 (n:Int)] h fun r h'=>(bU l=true∧∃u,r=.bD [u,.int .i64 0]∧Sat h' (bH u (cO l n)::X::S))∨(bU l=false∧r=.bD [.bz,.int .i64 4]∧Sat h' (X::S)):=by
 refine Call.of_wp (I.free _ rfl) Tryz.func98 rfl rfl (zK 8 rfl (zc rfl (NO I s hX lI) ?_))
 rintro r h' (⟨U,u,rfl,s⟩ | ⟨U,rfl,s⟩)
 ·have J:=fA U
  have wz:(m_ l n).length=512:=xj J
  obtain ⟨yb,_,cap,_,rfl,_⟩:=s.kB (by omega)
  refine zk 3 rfl ?_
  refine aB.cQ s rfl rfl rfl (cC oG) (fun p6 h s => ?_)
  refine zS rfl (s.g9 (j:=0) rfl dV rfl rfl) (fun h s => ?_)
  refine zk 6 rfl (zh rfl (ah rfl rfl aX) (rfl) (zk 5 rfl (zl rfl (s.fG (k:=0) rfl gG dV) (zm rfl (zc rfl (NN (a:=4) (z:=8) I (s.ae [1]) (by decide) (by decide) (by omega) (by omega)) ?_)))))
  rintro r h' ⟨rfl,s⟩
  have s:=s.ae [1,0]
  have s:Sat _ (_::bH _ (m_ l n)::_):=s
  refine zk 2 rfl ?_
  have s0:=s
  have r_:=(s.buf (k:=1) rfl).view.1
  have ec:(m_ l n).length=l.length:=by omega
  rw [←ec] at *
  refine WP.drawn [some (0,2),ai,ai,ai,ai,ai,ai] rfl (by kernel_rfl) (by kernel_rfl) ?_
  refine zL rfl (s.fG (k:=0) rfl gG dV) (zF rfl (pN _ _) (zL rfl (s.ld (k:=0) rfl bL rfl) (zO rfl (cD (p:=some (.int .i64 4)) (q:=none) (m:=none) (p':=some 4) (q':=none) (m':=none) rfl rfl rfl rfl rfl rfl rfl (er (s.buf (k:=1) rfl).view (a:=4) (by omega)).1) ?_)))
  refine aA.any rfl rfl rfl rfl (OpR.call rfl rfl rfl rfl (Sm I s (k:=1) rfl (nT (bE _ _) (a:=4) (by omega)) (by simp; omega))) ?_
  rintro r h' ⟨rfl,rfl⟩
  have s1:=s
  have hc:=BK (s:=0) (l:=(m_ l n).drop 4) (by decide) (fun x hx=>r_ x (iw hx))
  refine aA.op rfl rfl rfl (by simp only [isEff,cq]) (bV rfl (by exact jF Tryz.underlying155 cq (eW (by omega) (by omega)))) ?_
  refine aA.any rfl rfl rfl rfl (OpR.call rfl rfl rfl rfl (NN (a:=0) (z:=4) I (s.ae [1]) (by decide) (by decide) (by omega) (by omega))) ?_
  rintro r h ⟨rfl,s⟩
  have s:=s.ae [1,0]
  refine aA.nil ⟨⟨dO (.inr ⟨rfl,⟨_,aV rfl (s0.fG (k:=0) rfl gG dV)⟩,aW _ rfl⟩) (.inr ⟨rfl,⟨_,aV rfl (s1.fG (k:=0) rfl gG dV)⟩,aW _ rfl⟩),aa,aa,aa,aa,aa,aa,aa⟩,?_⟩
  exact zg rfl (zf rfl (pN _ _) (zl rfl (s.ld (k:=0) rfl bL rfl) (zk 3 rfl (WP.ret ⟨aa,_,rfl,.inl ⟨U,_,rfl,s.drop⟩⟩))))
 ·skip
  refine zk 3 rfl ?_
  refine aB.cQ s rfl rfl rfl (cC oG) (fun p6 h s => ?_)
  refine zS rfl (s.g9 (j:=0) rfl dV rfl rfl) (fun h s => ?_)
  exact zk 6 rfl (zt rfl (ah rfl rfl aX) (rfl) (zk 8 rfl (WP.ret ⟨aa,_,rfl,.inr ⟨U,rfl,s.drop⟩⟩)))
theorem aaq {P:Program}{E:List (Nat×V)}{d:TypeId}{x:Operand}{r:V}(I:lookO E x=some v)(J:arrPtrV P d v=some r): opE P E h (.sliceToArrayPointer d x)=some (r,h):=by simp only [opE,jV,I,J,bx]
theorem TE {P:Program}{t:TypeId}{id off n:Nat}{cap:Cap}(I:View h (.sl id off n cap) l)(J:cg P t=some true)(hs:bG P t=some l.length): loadV P h t (.ptr id off)=some (.agg (ofBytes l)):=by
 have:=I.rdN
 obtain ⟨rfl,U⟩:=this
 simp only [loadV,J,hs,U,je]
theorem FQ : ∀(l m:List Nat),l.length=m.length→intsBeq .u8 (ofBytes l) (ofBytes m)=some (decide (l=m)):=by
 intro l
 induction l with
 | nil=>intro m hm; cases m with
  | nil=>rfl
  | cons x m=>simp at hm
 | cons x l J=>intro m hm; cases m with
  | nil=>simp at hm
  | cons y m =>
   have hi:=J m (by simpa using hm)
   simp only [ofBytes,bJ] at hi ⊢
   simp only [intsBeq,ikBeq,iy,ag,hi,nU]
   by_cases I:x=y
   ·subst I; simp
   ·have:¬ ((x:Int)=(y:Int)):=by omega
    simp [this,I]
theorem Ql : buildV Tryz.prog 151 []=some (.agg (ofBytes (List.replicate 512 0))):=by kernel_rfl
theorem Sn {P:Program}{t e:TypeId}{n:Nat}{x y:Operand}{m:List Nat}(hu:P.underlying t=some (.array n e))(he:P.underlying e=some (.int .u8))(hs:bG P e=some 1)(I:l.length=n)(hm:m.length=n):
  binV P h .eql t x y (.agg (ofBytes l)) (.agg (ofBytes m))=some (.bool (decide (l=m))):=by
 simp only [binV,eqArr,hu,he,hs,dJ,I,hm,dh,iy,ag]
 rw [FQ l m (by omega)]
 rfl
def dA (l:List Nat): Int:=if l=List.replicate 512 0 then 0 else if bU l=false then 4 else if eR l 0 4≠yX 0 (l.drop 4) then 8 else 0
theorem xk (hT:W told)(s:Sat h (X::S))(J:cT X (cU v l))(lI:l.length<9223372036854775808):
  Call ⟨Tryz.prog,told⟩ 46 [v] h fun r h'=>r=.int .i64 (dA l)∧Sat h' (X::S):=by
 have hv:=s.aG (k:=0) rfl J
 have hz:(List.replicate 512 0).length=512:=fo
 -- what follows when the page is no page of noughts
 refine Call.of_wp (hT.free _ rfl) Tryz.func46 rfl rfl (zK 8 rfl (zo rfl (a_ rfl rfl rfl (bg aS (s.aG (k:=0) rfl J))) ?_))
 refine zd rfl (ah rfl rfl cI) ?_ ?_
 ·intro U
  have U:l.length=512:=by simp at U; omega
  obtain ⟨pi,po,pc,rfl⟩:=kC hv (by omega)
  refine zk 2 rfl (zo rfl (aaq (r:=.ptr pi po) rfl (by simp only [arrPtrV,Hl]; rw [U]; rfl)) ?_)
  refine zl rfl (TE hv XG (by rw [U]; exact XF)) ?_
  refine zo rfl (c7 rfl Ql) ?_
  by_cases hn:l=List.replicate 512 0
  ·skip
   exact zt rfl (ah rfl rfl (Sn Hl Tryz.underlying5 R2 U hz)) (decide_eq_true hn) (zk 7 rfl (WP.ret ⟨aa,_,rfl,by rw [dA,aj hn],s⟩))
  ·skip
   refine zh rfl (ah rfl rfl (Sn Hl Tryz.underlying5 R2 U hz)) (decide_eq_false hn) (zk 7 rfl (zc rfl (CX hT s J lI) ?_))
   rintro r h' ⟨s,(⟨hg,rfl⟩ | ⟨hg,rfl⟩)⟩
   ·refine aB.op rfl rfl rfl (bk rfl) ?_
    refine zk 2 rfl ?_
    refine aB.cQ s rfl rfl rfl (cC oG) (fun p3 h s => ?_)
    dsimp only [V.cells,List.length_cons,List.length_nil,Nat.reduceAdd] at s
    refine zS rfl (s.g9 (j:=0) rfl dV rfl rfl) (fun h s => ?_)
    dsimp only [setA] at s
    refine zk 3 rfl (WP.block (zK 3 rfl (zh rfl (ah rfl rfl aX) (rfl) (zk 4 rfl ?_))))
    have s0:=s
    refine WP.drawn [none,none,some (0,2),some (0,2),ai,ai,ai,ai] rfl (by kernel_rfl) (by kernel_rfl) ?_
    refine zL rfl (s.fG (k:=0) rfl gG dV) (aA.any rfl rfl rfl rfl (OpR.call rfl rfl rfl rfl (uH hT s (k:=1) rfl J (by decide) (by decide) (by decide) (by omega) (by omega))) ?_)
    rintro r h' ⟨rfl,s⟩
    have s1:=s
    refine zM rfl (zO rfl (cD (p:=some (.int .i64 4)) (q:=none) (m:=none) (p':=some 4) (q':=none) (m':=none) rfl rfl rfl rfl rfl rfl rfl (er (s.aG (k:=1) rfl J) (a:=4) (by omega)).1) ?_)
    refine aA.any rfl rfl rfl rfl (OpR.call rfl rfl rfl rfl (Sm hT s (k:=1) rfl (nT J (a:=4) (by omega)) (by simp; omega))) ?_
    rintro r h' ⟨rfl,rfl⟩
    have hc:=BK (s:=0) (l:=l.drop 4) (by decide) (fun x hx=>hv.1 x (iw hx))
    have hs:∃q c,slR (V.sl pi po l.length pc) 4 l.length=.sl pi q (l.length-4) c:=by
     cases pc with
     | exact c=>exact ⟨_,_,rfl⟩
     | rest e alt=>exact ⟨_,_,rfl⟩
    obtain ⟨q,c,hs⟩:=hs
    have Fg:(slR (V.sl pi po l.length pc) 4 l.length).beq (slR (V.sl pi po l.length pc) 4 l.length)=true:=by rw [hs]; exact CC _ _ _ _
    refine aA.op rfl rfl rfl (by simp only [isEff,bF]) (bV rfl (by exact jF Tryz.underlying155 bF (aU (by omega) (by omega)))) ?_
    by_cases I:eR l 0 4=yX 0 (l.drop 4)
    ·skip
     refine aA.nr rfl rfl rfl rfl (ah rfl rfl aX) (by simp; exact_mod_cast I) ?_
     refine zA rfl ?_
     refine aA.nil ⟨⟨aa,aa,fun _ _=>.inr ⟨rfl,⟨_,bk rfl⟩,aW _ rfl⟩,dO (.inr ⟨rfl,⟨_,cD (p:=some (.int .i64 4)) (q:=none) (m:=none) (p':=some 4) (q':=none) (m':=none) rfl rfl rfl rfl rfl rfl rfl (er (s0.aG (k:=1) rfl J) (a:=4) (by omega)).1⟩,Fg⟩) (.inr ⟨rfl,⟨_,cD (p:=some (.int .i64 4)) (q:=none) (m:=none) (p':=some 4) (q':=none) (m':=none) rfl rfl rfl rfl rfl rfl rfl (er (s1.aG (k:=1) rfl J) (a:=4) (by omega)).1⟩,Fg⟩),aa,aa,aa,aa,aa⟩,?_⟩
     refine zj rfl (WP.skip (zg rfl (za rfl (zv ?_))))
     refine WP.ret ⟨aa,_,rfl,?_⟩
     exact ⟨by rw [dA,af hn,af (by rw [hg]; decide),af (by simpa using I)],s.drop⟩
    ·skip
     refine aA.qn rfl rfl rfl rfl (ah rfl rfl aX) (by simp; exact_mod_cast I) ?_
     refine zA rfl ?_
     refine aA.nil ⟨⟨aa,aa,fun _ _=>.inr ⟨rfl,⟨_,bk rfl⟩,aW _ rfl⟩,dO (.inr ⟨rfl,⟨_,cD (p:=some (.int .i64 4)) (q:=none) (m:=none) (p':=some 4) (q':=none) (m':=none) rfl rfl rfl rfl rfl rfl rfl (er (s0.aG (k:=1) rfl J) (a:=4) (by omega)).1⟩,Fg⟩) (.inr ⟨rfl,⟨_,cD (p:=some (.int .i64 4)) (q:=none) (m:=none) (p':=some 4) (q':=none) (m':=none) rfl rfl rfl rfl rfl rfl rfl (er (s1.aG (k:=1) rfl J) (a:=4) (by omega)).1⟩,Fg⟩),aa,aa,aa,aa,aa⟩,?_⟩
     exact zK 5 rfl (WP.ret ⟨aa,_,rfl,by rw [dA,af hn,af (by rw [hg]; decide),aj I],s.drop⟩)
   ·skip
    refine zk 3 rfl ?_
    refine aB.cQ s rfl rfl rfl (cC oG) (fun p3 h s => ?_)
    refine zS rfl (s.g9 (j:=0) rfl dV rfl rfl) (fun h s => ?_)
    exact zk 3 rfl (WP.block (zK 3 rfl (zt rfl (ah rfl rfl aX) (rfl) (zk 8 rfl (WP.ret ⟨aa,_,rfl,by rw [dA,af hn,aj hg],s.drop⟩)))))
 ·intro U
  have U:l.length≠512:=by simp at U; omega
  have hn:l≠List.replicate 512 0:=fun e=>U (by rw [e,hz])
  have hg:bU l=false:=by rw [bU,eE U,e_]
  refine zk 13 rfl (zc rfl (CX hT s J lI) ?_)
  rintro r h' ⟨s,(⟨Sc,rfl⟩ | ⟨_,rfl⟩)⟩
  ·rw [hg] at Sc; cases Sc
  ·refine aB.op rfl rfl rfl (bk rfl) ?_
   refine zk 2 rfl ?_
   refine aB.cQ s rfl rfl rfl (cC oG) (fun p3 h s => ?_)
   refine zS rfl (s.g9 (j:=0) rfl dV rfl rfl) (fun h s => ?_)
   exact zk 3 rfl (WP.block (zK 3 rfl (zt rfl (ah rfl rfl aX) (rfl) (zk 8 rfl (WP.ret ⟨aa,_,rfl,by rw [dA,af hn,aj hg],s.drop⟩)))))
theorem sg {i b id off:Nat}(U:View h v l)(hb:l[i]?=some b)(he:indexAddrV Tryz.prog 32 v (.int .i64 (i:Int))=some (.ptr id off)): loadV Tryz.prog h 5 (.ptr id off)=some (.int .u8 (b:Int)):=by
 obtain ⟨I,off',J,e2⟩:=ie U hb
 rw [he] at J
 have e3:V.ptr id off=V.ptr I off':=bw J
 rw [e3]
 exact e2
theorem TF (hT:W told)(s:Sat h (X::S))(I:cT X (cU v l))(lI:l.length<9223372036854775808):
  Call ⟨Tryz.prog,told⟩ 127 [v] h fun r h'=>Sat h' (X::S)∧((bU l=true∧r=.bD [.int .i64 (l.getD 12 0:Nat),.int .u64 (eR l 4 8),.int .i64 (eR l 18 4),.int .i64 (eR l 22 4),.int .i64 0]) ∨
   (bU l=false∧r=.bD [.int .i64 0,.int .u64 0,.int .i64 0,.int .i64 0,.int .i64 4])):=by
 have hv:=s.aG (k:=0) rfl I
 refine Call.of_wp (hT.free _ rfl) Tryz.func127 rfl rfl (zK 11 rfl (zc rfl (CX hT s I lI) ?_))
 rintro r h' ⟨s,(⟨hg,rfl⟩ | ⟨hg,rfl⟩)⟩
 ·have hq:=fA hg
  obtain ⟨pi,po,pc,rfl⟩:=kC hv (by omega)
  have J:l[12]?=some (l[12]'(by omega)):=bh _
  generalize Ce:(l[12]'(by omega))=b at J
  have qg:b<256:=hv.1 b (br J)
  have uI:l.getD 12 0=b:=by rw [ki,J]; rfl
  rw [uI]
  refine zk 3 rfl ?_
  refine aB.cQ s rfl rfl rfl (cC oG) (fun p7 h s => ?_)
  refine zS rfl (s.g9 (j:=0) rfl dV rfl rfl) (fun h s => ?_)
  refine zk 6 rfl (zh rfl (ah rfl rfl aX) (rfl) (zk 4 rfl ?_))
  have s0:=s
  obtain ⟨id,off,U,e2⟩:=ie (s.aG (k:=1) rfl I) J
  refine WP.drawn [some (0,4),some (0,4),some (0,4),some (0,4),ai,ai,ai,some (0,2),none,some (0,3),ai,ai,ai,ai,ai,ai] rfl (by kernel_rfl) (by kernel_rfl) ?_
  refine zM rfl (zO rfl (dY (r:=.ptr id off) rfl rfl U) (zL rfl (sg (s.aG (k:=1) rfl I) J U) (aA.op rfl rfl rfl (by simp only [isEff,bF]) (bV rfl (by exact jF Tryz.underlying5 bF (aU (by omega) (by omega)))) ?_)))
  refine zM rfl (zO rfl (cD (p:=some (.int .i64 4)) (q:=some (.int .i64 12)) (m:=none) (p':=some 4) (q':=some 12) (m':=none) rfl rfl rfl rfl rfl rfl rfl (iI (s.aG (k:=1) rfl I) (a:=4) (b:=12) (by omega) (by omega)).1) ?_)
  refine aA.any rfl rfl rfl rfl (OpR.call rfl rfl rfl rfl (pS hT s (k:=1) rfl (mF I (a:=4) (b:=12) (by omega) (by omega)) (by simp; omega))) ?_
  rintro r h' ⟨rfl,rfl⟩
  have s1:=s
  refine zL rfl (s.fG (k:=0) rfl gG dV) (aA.any rfl rfl rfl rfl (OpR.call rfl rfl rfl rfl (uH hT s (k:=1) rfl I (by decide) (by decide) (by decide) (by omega) (by omega))) ?_)
  rintro r h' ⟨rfl,s⟩
  have s2:=s
  refine zL rfl (s.fG (k:=0) rfl gG dV) (aA.any rfl rfl rfl rfl (OpR.call rfl rfl rfl rfl (uH hT s (k:=1) rfl I (by decide) (by decide) (by decide) (by omega) (by omega))) ?_)
  rintro r h' ⟨rfl,s⟩
  refine zA rfl (zA rfl (zA rfl (zA rfl (zA rfl ?_))))
  refine aA.nil ⟨⟨fun _ _=>.inr ⟨rfl,⟨_,bk rfl⟩,aW _ rfl⟩,fun _ _=>.inr ⟨rfl,⟨_,dY (r:=.ptr id off) rfl rfl U⟩,aW _ rfl⟩,VD (.inr ⟨rfl,⟨_,aV rfl (sg (s0.aG (k:=1) rfl I) J U)⟩,aW _ rfl⟩) (.inr ⟨rfl,⟨_,aV rfl (sg (s1.aG (k:=1) rfl I) J U)⟩,aW _ rfl⟩) (.inr ⟨rfl,⟨_,aV rfl (sg (s2.aG (k:=1) rfl I) J U)⟩,aW _ rfl⟩) (.inr ⟨rfl,⟨_,aV rfl (sg (s.aG (k:=1) rfl I) J U)⟩,aW _ rfl⟩),fun _ _=>.inr ⟨rfl,⟨_,bV rfl (by exact jF Tryz.underlying5 bF (aU (by omega) (by omega)))⟩,aW _ rfl⟩,aa,aa,aa,dO (.inr ⟨rfl,⟨_,aV rfl (s0.fG (k:=0) rfl gG dV)⟩,aW _ rfl⟩) (.inr ⟨rfl,⟨_,aV rfl (s1.fG (k:=0) rfl gG dV)⟩,aW _ rfl⟩),aa,wj (.inr ⟨rfl,⟨_,aV rfl (s0.fG (k:=0) rfl gG dV)⟩,aW _ rfl⟩) (.inr ⟨rfl,⟨_,aV rfl (s1.fG (k:=0) rfl gG dV)⟩,aW _ rfl⟩) (.inr ⟨rfl,⟨_,aV rfl (s2.fG (k:=0) rfl gG dV)⟩,aW _ rfl⟩),aa,aa,aa,aa,aa,aa,aa⟩,?_⟩
  refine WP.ret ⟨aa,_,rfl,?_⟩
  exact ⟨s.drop,.inl ⟨hg,rfl⟩⟩
 ·skip
  refine zk 3 rfl ?_
  refine aB.cQ s rfl rfl rfl (cC oG) (fun p7 h s => ?_)
  refine zS rfl (s.g9 (j:=0) rfl dV rfl rfl) (fun h s => ?_)
  exact zk 6 rfl (zt rfl (ah rfl rfl aX) (rfl) (zk 11 rfl (WP.ret ⟨aa,_,rfl,s.drop,.inr ⟨hg,rfl⟩⟩)))
end
structure Lg where
 base:Nat
 b:List Nat
 bq:List Nat
 forced:Nat
 check:Nat
def gJ (l:List Nat): List V:=l.map fun (n:Nat)=>V.int .i64 (n:Int)
theorem ke (l:List Nat): (gJ l).length=l.length:=by simp [gJ]
def y5 (p base:Nat)(bv I:V)(forced check:Nat): List V:=[.ptr p 0,.int .u64 (base:Int),bv,I,.int .i64 (forced:Int),.int .u64 (check:Int)]
def bf (q p:Nat)(μ:Lg): ax:=xs fun bv:V=>xs fun I:V=>star [pt q (.cells 6 (y5 p μ.base bv I μ.forced μ.check) false),bH bv μ.b,.arr 1 I (gJ μ.bq)]
structure Lg.Ok (μ:Lg): Prop where
 size:μ.base+μ.b.length≤1099511627776
 many:μ.bq.length≤16777216
 low:∀s∈μ.bq,s<μ.b.length
 xm:μ.bq.Pairwise (· < ·)
 forced:μ.forced≤μ.b.length
 len:μ.b.length≤16777216
 check:μ.check≤1099511627776
theorem XX {P:Program}{h:H}{t:TypeId}{x y:Operand}{a b:Nat}(I:a+b<4611686018427387904): binV P h .quo t x y (.int .i64 ((a:Int)+(b:Int))) (.int .i64 2)=some (.int .i64 (((a+b)/2:Nat):Int)):=by
 simp only [binV,ikBeq,ag,intV]
 rw [show intBeq 2 0=false from rfl,az,JM (by omega),aU (by omega) (by omega)]
 congr 2
section
variable {told:dH} {h:H} {S:List ax} {X:ax} {k q p:Nat} {v:V} {l:List Nat} {μ:Lg}
theorem dc : Sat h (bf q p μ::S)↔∃bv I,Sat h (pt q (.cells 6 (y5 p μ.base bv I μ.forced μ.check) false)::bH bv μ.b::.arr 1 I (gJ μ.bq)::S):=by
 simp only [bf,gw,dZ,fq,cW]
theorem kV {P:Program}{t e:TypeId}{cs:List V}{i:Nat}{c:V}(s:Sat h S)(U:getA S k=some (.arr 1 v cs))(hi:cs[i]?=some c)(hu:P.underlying t=some (.slice e))(I:bG P e=some 1):
  ∃id off,indexAddrV P t v (.int .i64 (i:Int))=some (.ptr id off)∧∀t',cg P t'=some false→loadV P h t' (.ptr id off)=some c:=by
 have J:i<cs.length:=(List.getElem?_eq_some_iff.1 hi).1
 obtain ⟨m,r,h1,h2,h3⟩:=s.at U
 rcases h3.2 with ⟨_,rfl⟩ | ⟨id,n,cap,N,rest,rfl,hg,e1,e2,_⟩
 ·simp at hi
 ·refine ⟨id,i,?_,fun t' ht=>J5 ht (h1 _ _ hg) ?_⟩
  ·simp only [indexAddrV,hu,I,cP]
   rw [show (decide ((0:Int)≤(i:Int))&&decide ((i:Int)<(n:Int)))=true by simp; omega,ag]
   simp
  ·rw [fR,kj J,hi]
theorem vf (I:W told)(s:Sat h (bf q p μ::S)): Call ⟨Tryz.prog,told⟩ 30 [.ptr q 0] h fun v h'=>v=.int .u64 (μ.base:Int)∧h'=h:=by
 obtain ⟨bv,J,s⟩:=dc.1 s
 exact Call.of_wp (I.free _ rfl) Tryz.func30 rfl rfl (zK 8 rfl (zf rfl (gF _ _) (zl rfl (s.ld (k:=0) rfl gj rfl) (zk 2 rfl (WP.ret ⟨aa,_,rfl,rfl,rfl⟩)))))
theorem Bf (I:W told)(s:Sat h (bf q p μ::S)): Call ⟨Tryz.prog,told⟩ 60 [.ptr q 0] h fun v h'=>v=.int .u64 (μ.check:Int)∧h'=h:=by
 obtain ⟨bv,J,s⟩:=dc.1 s
 exact Call.of_wp (I.free _ rfl) Tryz.func60 rfl rfl (zK 8 rfl (zf rfl (pM _ _) (zl rfl (s.ld (k:=0) rfl gj rfl) (zk 2 rfl (WP.ret ⟨aa,_,rfl,rfl,rfl⟩)))))
theorem nV (I:W told)(s:Sat h (bf q p μ::S))(J:μ.base+μ.b.length≤1099511627776): Call ⟨Tryz.prog,told⟩ 31 [.ptr q 0] h fun v h'=>v=.int .u64 ((μ.base:Int)+(μ.b.length:Int))∧h'=h:=by
 obtain ⟨bv,U,s⟩:=dc.1 s
 refine Call.of_wp (I.free _ rfl) Tryz.func31 rfl rfl (zK 5 rfl (WP.drawn [ai,ai,ai,ai,ai,ai,ai,ai,ai,ai,ai,ai] rfl (by kernel_rfl) (by kernel_rfl) ?_))
 refine zM rfl (zN rfl (zF rfl (gF _ _) (zL rfl (s.ld (k:=0) rfl gj rfl) (zM rfl (zN rfl (zF rfl (eF _ _) (zL rfl (s.ld (k:=0) rfl bL rfl) (zO rfl (a_ rfl rfl rfl (bg aS (s.aG (k:=1) rfl (bE _ _)))) (aA.op rfl rfl rfl (by simp only [isEff,cq]) (bV rfl (by exact jF bF cq (eW (by omega) (by omega)))) ?_)))))))))
 refine zO rfl (ah rfl rfl (by exact bQ (eW (by omega) (by omega)))) ?_
 refine zA rfl ?_
 refine aA.nil ⟨⟨aa,aa,aa,aa,aa,aa,aa,aa,aa,aa,aa,aa,aa⟩,?_⟩
 refine WP.ret ⟨aa,_,rfl,?_⟩
 exact ⟨rfl,rfl⟩
theorem th (I:W told)(s:Sat h (bf q p μ::S))(J:μ.base+μ.b.length≤1099511627776)(U:μ.forced≤μ.b.length): Call ⟨Tryz.prog,told⟩ 34 [.ptr q 0] h fun v h'=>v=.int .u64 ((μ.base:Int)+(μ.forced:Int))∧h'=h:=by
 obtain ⟨bv,sv,s⟩:=dc.1 s
 refine Call.of_wp (I.free _ rfl) Tryz.func34 rfl rfl (zK 5 rfl (WP.drawn [ai,ai,ai,ai,ai,ai,ai,ai,ai,ai,ai] rfl (by kernel_rfl) (by kernel_rfl) ?_))
 refine zM rfl (zN rfl (zF rfl (gF _ _) (zL rfl (s.ld (k:=0) rfl gj rfl) (zM rfl (zN rfl (zF rfl (pL _ _) (zL rfl (s.ld (k:=0) rfl dr rfl) (aA.op rfl rfl rfl (by simp only [isEff,cq]) (bV rfl (by exact jF bF cq (eW (by omega) (by omega)))) ?_))))))))
 refine zO rfl (ah rfl rfl (by exact bQ (eW (by omega) (by omega)))) ?_
 refine zA rfl ?_
 refine aA.nil ⟨⟨aa,aa,aa,aa,aa,aa,aa,aa,aa,aa,aa,aa⟩,?_⟩
 refine WP.ret ⟨aa,_,rfl,?_⟩
 exact ⟨rfl,rfl⟩
def Split (μ:Lg)(n i:Nat): Prop:=i≤μ.bq.length∧(∀(j s:Nat),j<i→μ.bq[j]?=some s→μ.base+s<n)∧(∀(j s:Nat),i≤j→μ.bq[j]?=some s→n≤μ.base+s)
theorem Em {l:List Nat}(J:l.Pairwise (· < ·)){i j a b:Nat}(I:i<j)(U:l[i]?=some a)(hb:l[j]?=some b): a<b:=by
 obtain ⟨h1,rfl⟩:=List.getElem?_eq_some_iff.1 U
 obtain ⟨h2,rfl⟩:=List.getElem?_eq_some_iff.1 hb
 exact List.pairwise_iff_getElem.1 J _ _ h1 h2 I
noncomputable def lfL : Code:=cK [1,1,0,0,0] ((Tryz.f99.body).getD .skip)
theorem NP {bv sv:V}{n:Nat}(hn:n<18446744073709551616)(I:μ.Ok)(s:Sat h (pt q (.cells 6 (y5 p μ.base bv sv μ.forced μ.check) false)::bH bv μ.b::.arr 1 sv (gJ μ.bq)::S)): ∀(fuel lo hi:Nat) (E:List (Nat×V)) (Q:Ex→List (Nat×V)→H→Prop),hi-lo≤fuel→lo≤hi→hi≤μ.bq.length →
  (∀(j s:Nat),j<lo→μ.bq[j]?=some s→μ.base+s<n)→(∀(j s:Nat),hi≤j→μ.bq[j]?=some s→n≤μ.base+s) →
  Has E [(0,.ptr q 0),(1,.int .u64 (n:Int)),(5,.int .i64 (lo:Int)),(6,.int .i64 (hi:Int))]→(∀E' i,Split μ n i→look E' 5=some (.int .i64 (i:Int))→Q (.exit 0) E' h)→WP ⟨Tryz.prog,told⟩ 39 (.loop lfL) E h Q:=by
 have xn:=I.many
 have xo:=I.size
 intro fuel
 induction fuel with
 | zero =>
  intro lo hi E Q hf h1 h2 h3 h4 hE hq
  refine WP.loop (WP.has hE (zK 5 rfl (zh rfl (ah rfl rfl bu) (by simp; omega) ?_)))
  refine zk 2 rfl (WP.exit ?_)
  have e:lo=hi:=by omega
  exact hq _ lo ⟨by omega,h3,by rw [e]; exact h4⟩ rfl
 | succ fuel ih =>
  intro lo hi E Q hf h1 h2 h3 h4 hE hq
  by_cases bS:lo<hi
  ·skip
   refine WP.loop (WP.has hE (zK 5 rfl (zt rfl (ah rfl rfl bu) (by simp; omega) ?_)))
   refine zk 3 rfl (WP.block (zK 4 rfl (zb rfl (by exact bQ (aU (by omega) (by omega))) ?_)))
   refine zb rfl (XX (by omega)) ?_
   refine zk 3 rfl ?_
   generalize hm:(lo+hi)/2=m
   have ya:lo≤m:=by omega
   have MO:m<hi:=by omega
   obtain ⟨st,J⟩:∃st,μ.bq[m]?=some st:=⟨_,bh (by omega)⟩
   have LA:=I.low st (br J)
   have hlen:=I.len
   have hc:(gJ μ.bq)[m]?=some (.int .i64 (st:Int)):=by simp [gJ,J]
   obtain ⟨id,off,e1,e2⟩:=kV (P:=Tryz.prog) s (k:=2) rfl hc eC jG
   refine WP.drawn [ai,ai,ai,ai,ai,ai,ai,ai,ai,ai,ai,ai,ai,ai,ai] rfl (by kernel_rfl) (by kernel_rfl) ?_
   refine zM rfl (zN rfl (zF rfl (gF _ _) (zL rfl (s.ld (k:=0) rfl gj rfl) (zM rfl (zN rfl (zF rfl (iW _ _) (zL rfl (s.ld (k:=0) rfl qp rfl) (zM rfl (zO rfl (dY (r:=.ptr id off) rfl rfl e1) (zL rfl (e2 _ dr) (aA.op rfl rfl rfl (by simp only [isEff,cq]) (bV rfl (by exact jF bF cq (eW (by omega) (by omega)))) ?_)))))))))))
   refine zO rfl (ah rfl rfl (by exact bQ (eW (by omega) (by omega)))) ?_
   refine zM rfl ?_
   by_cases sM:μ.base+st<n
   ·skip
    refine aA.qn rfl rfl rfl rfl (ah rfl rfl bu) (by simp; omega) ?_
    refine aA.nil ⟨⟨aa,aa,aa,aa,aa,aa,aa,aa,aa,aa,aa,aa,aa,aa,aa,aa⟩,?_⟩
    refine zK 3 rfl (zb rfl (by exact bQ (aU (by omega) (by omega))) ?_)
    refine za rfl (zv ?_)
    refine ih (m+1) hi _ Q (by omega) (by omega) h2 (fun j s hj hs => ?_) h4 ⟨rfl,rfl,rfl,rfl,aa⟩ hq
    by_cases U:j=m
    ·subst U; rw [J] at hs; injection hs with hs; omega
    ·have:=Em I.xm (show j<m by omega) hs J; omega
   ·skip
    refine aA.nr rfl rfl rfl rfl (ah rfl rfl bu) (by simp; omega) ?_
    refine aA.nil ⟨⟨aa,aa,aa,aa,aa,aa,aa,aa,aa,aa,aa,aa,aa,aa,aa,aa⟩,?_⟩
    refine zj rfl (zr rfl (zk 2 rfl (zv ?_)))
    refine ih lo m _ Q (by omega) ya (by omega) h3 (fun j s hj hs => ?_) ⟨rfl,rfl,rfl,rfl,aa⟩ hq
    by_cases U:j=m
    ·subst U; rw [J] at hs; injection hs with hs; omega
    ·have:=Em I.xm (show m<j by omega) J hs; omega
  ·skip
   refine WP.loop (WP.has hE (zK 5 rfl (zh rfl (ah rfl rfl bu) (by simp; omega) ?_)))
   refine zk 2 rfl (WP.exit ?_)
   have e:lo=hi:=by omega
   exact hq _ lo ⟨by omega,h3,by rw [e]; exact h4⟩ rfl
theorem En (U:W told){n:Nat}(s:Sat h (bf q p μ::S))(I:μ.Ok)(hn:n<18446744073709551616): Call ⟨Tryz.prog,told⟩ 99 [.ptr q 0,.int .u64 (n:Int)] h fun v h'=>h'=h∧∃i,Split μ n i∧v=.int .i64 (i:Int):=by
 obtain ⟨bv,sv,s⟩:=dc.1 s
 refine Call.of_wp (U.free _ rfl) Tryz.func99 rfl rfl (zK 5 rfl (WP.drawn [ai,ai,ai,ai,ai,ai,ai] rfl (by kernel_rfl) (by kernel_rfl) ?_))
 refine zM rfl (zN rfl (zF rfl (iW _ _) (zL rfl (s.ld (k:=0) rfl qp rfl) (zO rfl (a_ rfl rfl rfl (s.iK (n:=μ.bq.length) (j:=2) rfl (by rw [ke,dN]) (by decide) eC)) ?_))))
 refine zA rfl (zA rfl ?_)
 refine aA.nil ⟨⟨aa,aa,aa,aa,aa,aa,aa,aa⟩,?_⟩
 refine zw (WP.block ?_)
 refine NP hn I s μ.bq.length 0 μ.bq.length _ _ (by omega) (by omega) (by omega) (fun j s hj _=>by omega) (fun j s hj hs => ?_) ⟨rfl,rfl,rfl,rfl,aa⟩ (fun E' i hi J => ?_)
 ·rw [oW (by omega)] at hs; cases hs
 ·skip
  exact WP.has (F:=[(5,.int .i64 (i:Int))]) ⟨J,aa⟩ (zK 5 rfl (WP.ret ⟨aa,_,rfl,rfl,i,hi,rfl⟩))
def Lg.hasB (μ:Lg)(n:Nat): Bool:=μ.bq.any fun s=>decide (μ.base+s=n)
theorem Split.has {n i:Nat}(hs:Split μ n i)(hr:μ.bq.Pairwise (· < ·)): μ.hasB n=true↔∃s,μ.bq[i]?=some s∧μ.base+s=n:=by
 rw [Lg.hasB,tF]
 constructor
 ·rintro ⟨s,U,I⟩
  have I:μ.base+s=n:=by simpa using I
  obtain ⟨j,J⟩:=Ab U
  have uj:i≤j:=by
   rcases qX j i with h | h
   ·have:=hs.2.1 j s h J; omega
   ·exact h
  by_cases he:i=j
  ·subst he; exact ⟨s,J,I⟩
  ·have YY:=(List.getElem?_eq_some_iff.1 J).1
   have hi:μ.bq[i]?=some (μ.bq[i]'(by omega)):=bh _
   have h3:=hs.2.2 i _ (aK _) hi
   have h4:=Em hr (show i<j by omega) hi J
   omega
 ·rintro ⟨s,U,I⟩
  exact ⟨s,br U,by simpa using I⟩
theorem vg {i st:Nat}(I:μ.bq[i]?=some st): (gJ μ.bq)[i]?=some (.int .i64 (st:Int)):=by simp [gJ,I]
theorem AN (hT:W told){n:Nat}(s:Sat h (bf q p μ::S))(I:μ.Ok)(hn:n<18446744073709551616): Call ⟨Tryz.prog,told⟩ 56 [.ptr q 0,.int .u64 (n:Int)] h fun v h'=>h'=h∧v=.bool (μ.hasB n):=by
 have s0:=s
 obtain ⟨bv,sv,s⟩:=dc.1 s
 have xn:=I.many
 have xo:=I.size
 refine Call.of_wp (hT.free _ rfl) Tryz.func56 rfl rfl (zK 8 rfl (zc rfl (En hT s0 I hn) ?_))
 rintro v h' ⟨rfl,i,hi,rfl⟩
 have hh:=hi.has I.xm
 refine zk 3 rfl (WP.drawn [ai,ai,ai,ai,ai,ai,ai,ai,ai,ai,ai,ai,ai,ai,ai,ai,ai,ai,ai,ai,ai,ai,ai,ai,ai] rfl (by kernel_rfl) (by kernel_rfl) ?_)
 refine zM rfl (zM rfl (zN rfl (zF rfl (iW _ _) (zL rfl (s.ld (k:=0) rfl qp rfl) (zO rfl (a_ rfl rfl rfl (s.iK (n:=μ.bq.length) (j:=2) rfl (by rw [ke,dN]) (by decide) eC)) ?_)))))
 by_cases Bd:i<μ.bq.length
 ·skip
  refine aA.qn rfl rfl rfl rfl (ah rfl rfl bu) (by simp; omega) ?_
  obtain ⟨st,J⟩:∃st,μ.bq[i]?=some st:=⟨_,bh Bd⟩
  have LA:=I.low st (br J)
  obtain ⟨id,off,e1,e2⟩:=kV (P:=Tryz.prog) s (k:=2) rfl (vg J) eC jG
  refine zM rfl (zM rfl (zN rfl (zF rfl (gF _ _) (zL rfl (s.ld (k:=0) rfl gj rfl) (zM rfl (zN rfl (zF rfl (iW _ _) (zL rfl (s.ld (k:=0) rfl qp rfl) (zM rfl (zO rfl (dY (r:=.ptr id off) rfl rfl e1) (zL rfl (e2 _ dr) (aA.op rfl rfl rfl (by simp only [isEff,cq]) (bV rfl (by exact jF bF cq (eW (by omega) (by omega)))) ?_))))))))))))
  refine zO rfl (ah rfl rfl (by exact bQ (eW (by omega) (by omega)))) ?_
  refine zM rfl ?_
  by_cases he:μ.base+st=n
  ·skip
   refine aA.qn rfl rfl rfl rfl (ah rfl rfl cI) (by simp; omega) ?_
   refine zO rfl (kT rfl rfl) (zA rfl ?_)
   refine aA.nil ⟨⟨aa,aa,aa,aa,aa,aa,aa,aa,aa,aa,aa,aa,aa,aa,aa,aa,aa,aa,aa,aa,aa,aa,aa,aa,aa,aa⟩,?_⟩
   refine WP.ret ⟨aa,_,rfl,?_⟩
   exact ⟨rfl,by rw [hh.2 ⟨st,J,he⟩]⟩
  ·skip
   refine aA.nr rfl rfl rfl rfl (ah rfl rfl cI) (by simp; omega) ?_
   refine zO rfl (kT rfl rfl) (zA rfl ?_)
   refine aA.nil ⟨⟨aa,aa,aa,aa,aa,aa,aa,aa,aa,aa,aa,aa,aa,aa,aa,aa,aa,aa,aa,aa,aa,aa,aa,aa,aa,aa⟩,?_⟩
   refine WP.ret ⟨aa,_,rfl,?_⟩
   refine ⟨rfl,?_⟩
   cases hb:μ.hasB n with
   | false=>rfl
   | true =>
    obtain ⟨s',U,h2⟩:=hh.1 hb
    rw [J] at U; have:=bw U; omega
 ·skip
  refine aA.nr rfl rfl rfl rfl (ah rfl rfl bu) (by simp; omega) ?_
  refine zM rfl (aA.no (e:=false) rfl rfl rfl rfl (aA.no (e:=false) rfl rfl rfl rfl (aA.no (e:=false) rfl rfl rfl rfl (aA.no (e:=false) rfl rfl rfl rfl (aA.no (e:=false) rfl rfl rfl rfl (aA.no (e:=false) rfl rfl rfl rfl (aA.no (e:=false) rfl rfl rfl rfl (aA.no (e:=false) rfl rfl rfl rfl (aA.no (e:=false) rfl rfl rfl rfl (aA.no (e:=false) rfl rfl rfl rfl (aA.no (e:=false) rfl rfl rfl rfl (aA.no (e:=false) rfl rfl rfl (by simp only [isEff,cq]) ?_))))))))))))
  refine aA.no (e:=false) rfl rfl rfl rfl (aA.no (e:=false) rfl rfl rfl rfl (aA.no (e:=false) rfl rfl rfl rfl (zO rfl (kA rfl rfl) (zA rfl ?_))))
  refine aA.nil ⟨⟨aa,aa,aa,aa,aa,aa,aa,aa,aa,aa,aa,aa,aa,aa,aa,aa,aa,aa,aa,aa,aa,aa,aa,aa,aa,aa⟩,?_⟩
  refine WP.ret ⟨aa,_,rfl,?_⟩
  refine ⟨rfl,?_⟩
  cases hb:μ.hasB n with
  | false=>rfl
  | true =>
   obtain ⟨s',U,h2⟩:=hh.1 hb
   have:=(List.getElem?_eq_some_iff.1 U).1
   omega
theorem NQ (hT:W told){n:Nat}(s:Sat h (bf q p μ::S))(I:μ.Ok)(hn:n<18446744073709551616): Call ⟨Tryz.prog,told⟩ 70 [.ptr q 0,.int .u64 (n:Int)] h fun v h'=>h'=h∧∃r:Nat,v=.int .u64 (r:Int) ∧
  ((r=μ.base+μ.b.length∧μ.base+μ.b.length≤n)∨(μ.hasB r=true∧r≤n)∨r=μ.base)∧(μ.hasB n=true→n<μ.base+μ.b.length→r=n):=by
 have s0:=s
 obtain ⟨bv,sv,s⟩:=dc.1 s
 have xn:=I.many
 have xo:=I.size
 refine Call.of_wp (hT.free _ rfl) Tryz.func70 rfl rfl (zK 8 rfl (zc rfl (En hT s0 I hn) ?_))
 rintro v h' ⟨rfl,i,hi,rfl⟩
 have hh:=hi.has I.xm
 refine zk 3 rfl (WP.block (zK 4 rfl (zc rfl (nV hT s0 I.size) ?_)))
 rintro v h' ⟨rfl,rfl⟩
 by_cases Ho:μ.base+μ.b.length≤n
 ·skip
  refine zt rfl (ah rfl rfl nq) (by simp; omega) ?_
  refine zk 6 rfl (zc rfl (nV hT s0 I.size) ?_)
  rintro v h' ⟨rfl,rfl⟩
  exact zk 2 rfl (WP.ret ⟨aa,_,rfl,rfl,μ.base+μ.b.length,rfl,.inl ⟨rfl,Ho⟩,fun _ hn=>absurd hn (by omega)⟩)
 ·skip
  refine zh rfl (ah rfl rfl nq) (by simp; omega) ?_
  refine zk 4 rfl (WP.drawn [ai,ai,ai,ai,ai,ai,ai,ai,ai,ai,ai,ai,ai,ai,ai,ai,ai,ai,ai,ai,ai,ai,ai,ai,ai] rfl (by kernel_rfl) (by kernel_rfl) ?_)
  refine zM rfl (zM rfl (zN rfl (zF rfl (iW _ _) (zL rfl (s.ld (k:=0) rfl qp rfl) (zO rfl (a_ rfl rfl rfl (s.iK (n:=μ.bq.length) (j:=2) rfl (by rw [ke,dN]) (by decide) eC)) ?_)))))
  by_cases Bd:i<μ.bq.length
  ·skip
   refine aA.qn rfl rfl rfl rfl (ah rfl rfl bu) (by simp; omega) ?_
   obtain ⟨st,fW⟩:∃st,μ.bq[i]?=some st:=⟨_,bh Bd⟩
   have LA:=I.low st (br fW)
   obtain ⟨id,off,e1,e2⟩:=kV (P:=Tryz.prog) s (k:=2) rfl (vg fW) eC jG
   refine zM rfl (zM rfl (zN rfl (zF rfl (gF _ _) (zL rfl (s.ld (k:=0) rfl gj rfl) (zM rfl (zN rfl (zF rfl (iW _ _) (zL rfl (s.ld (k:=0) rfl qp rfl) (zM rfl (zO rfl (dY (r:=.ptr id off) rfl rfl e1) (zL rfl (e2 _ dr) (aA.op rfl rfl rfl (by simp only [isEff,cq]) (bV rfl (by exact jF bF cq (eW (by omega) (by omega)))) ?_))))))))))))
   refine zO rfl (ah rfl rfl (by exact bQ (eW (by omega) (by omega)))) ?_
   refine zM rfl ?_
   by_cases he:μ.base+st=n
   ·skip
    refine aA.qn rfl rfl rfl rfl (ah rfl rfl cI) (by simp; omega) ?_
    refine zO rfl (kT rfl rfl) (zA rfl ?_)
    refine aA.nil ⟨⟨aa,aa,aa,aa,aa,aa,aa,aa,aa,aa,aa,aa,aa,aa,aa,aa,aa,aa,aa,aa,aa,aa,aa,aa,aa,aa⟩,?_⟩
    exact zK 6 rfl (WP.ret ⟨aa,_,rfl,rfl,n,rfl,.inr (.inl ⟨hh.2 ⟨st,fW,he⟩,aK _⟩),fun _ _=>rfl⟩)
   ·skip
    refine aA.nr rfl rfl rfl rfl (ah rfl rfl cI) (by simp; omega) ?_
    refine zO rfl (kT rfl rfl) (zA rfl ?_)
    refine aA.nil ⟨⟨aa,aa,aa,aa,aa,aa,aa,aa,aa,aa,aa,aa,aa,aa,aa,aa,aa,aa,aa,aa,aa,aa,aa,aa,aa,aa⟩,?_⟩
    refine zK 4 rfl ?_
    have VU:¬μ.hasB n=true:=fun U=>by
     obtain ⟨s',h1,h2⟩:=hh.1 U
     rw [fW] at h1; have:=bw h1; omega
    by_cases VV:i=0
    ·skip
     refine zt rfl (ah rfl rfl cI) (by simp; omega) ?_
     exact zk 7 rfl (zf rfl (gF _ _) (zl rfl (s.ld (k:=0) rfl gj rfl) (zk 2 rfl (WP.ret ⟨aa,_,rfl,rfl,μ.base,rfl,.inr (.inr rfl),fun U _=>absurd U (VU)⟩))))
    ·skip
     refine zh rfl (ah rfl rfl cI) (by simp; omega) ?_
     refine za rfl (zv (zj rfl (WP.skip (zw ?_))))
     obtain ⟨s2,J⟩:∃st,μ.bq[i-1]?=some st:=⟨_,bh (by omega)⟩
     have Sq:=I.low s2 (br J)
     obtain ⟨id,off,e1,e2⟩:=kV (P:=Tryz.prog) s (k:=2) rfl (vg J) eC jG
     rw [show ((i-1:Nat):Int)=(i:Int)-1 by omega] at e1
     refine WP.drawn [ai,ai,ai,ai,ai,ai,ai,ai,ai,ai,ai,ai,ai,ai,ai] rfl (by kernel_rfl) (by kernel_rfl) ?_
     refine zM rfl (zN rfl (zF rfl (gF _ _) (zL rfl (s.ld (k:=0) rfl gj rfl) (zM rfl (zN rfl (zF rfl (iW _ _) (zL rfl (s.ld (k:=0) rfl qp rfl) (zM rfl (zO rfl (ah rfl rfl (by exact lG (aU (by omega) (by omega)))) ?_)))))))))
     refine zO rfl (dY (r:=.ptr id off) rfl rfl e1) (zL rfl (e2 _ dr) (aA.op rfl rfl rfl (by simp only [isEff,cq]) (bV rfl (by exact jF bF cq (eW (by omega) (by omega)))) ?_))
     refine zO rfl (ah rfl rfl (by exact bQ (eW (by omega) (by omega)))) ?_
     refine zA rfl ?_
     refine aA.nil ⟨⟨aa,aa,aa,aa,aa,aa,aa,aa,aa,aa,aa,aa,aa,aa,aa,aa⟩,?_⟩
     refine WP.ret ⟨aa,_,rfl,?_⟩
     have bS:=hi.2.1 (i-1) s2 (by omega) J
     refine ⟨rfl,μ.base+s2,rfl,.inr (.inl ⟨?_,by omega⟩),fun U _=>absurd U VU⟩
     rw [Lg.hasB,tF]
     exact ⟨s2,br J,by simp⟩
  ·skip
   refine aA.nr rfl rfl rfl rfl (ah rfl rfl bu) (by simp; omega) ?_
   refine zM rfl (aA.no (e:=false) rfl rfl rfl rfl (aA.no (e:=false) rfl rfl rfl rfl (aA.no (e:=false) rfl rfl rfl rfl (aA.no (e:=false) rfl rfl rfl rfl (aA.no (e:=false) rfl rfl rfl rfl (aA.no (e:=false) rfl rfl rfl rfl (aA.no (e:=false) rfl rfl rfl rfl (aA.no (e:=false) rfl rfl rfl rfl (aA.no (e:=false) rfl rfl rfl rfl (aA.no (e:=false) rfl rfl rfl rfl (aA.no (e:=false) rfl rfl rfl rfl (aA.no (e:=false) rfl rfl rfl (by simp only [isEff,cq]) ?_))))))))))))
   refine aA.no (e:=false) rfl rfl rfl rfl (aA.no (e:=false) rfl rfl rfl rfl (aA.no (e:=false) rfl rfl rfl rfl (zO rfl (kA rfl rfl) (zA rfl ?_))))
   refine aA.nil ⟨⟨aa,aa,aa,aa,aa,aa,aa,aa,aa,aa,aa,aa,aa,aa,aa,aa,aa,aa,aa,aa,aa,aa,aa,aa,aa,aa⟩,?_⟩
   refine zK 4 rfl ?_
   have VW:¬μ.hasB n=true:=fun U=>by
    obtain ⟨s',h1,h2⟩:=hh.1 U
    have:=(List.getElem?_eq_some_iff.1 h1).1
    omega
   by_cases VV:i=0
   ·skip
    refine zt rfl (ah rfl rfl cI) (by simp; omega) ?_
    exact zk 7 rfl (zf rfl (gF _ _) (zl rfl (s.ld (k:=0) rfl gj rfl) (zk 2 rfl (WP.ret ⟨aa,_,rfl,rfl,μ.base,rfl,.inr (.inr rfl),fun U _=>absurd U (VW)⟩))))
   ·skip
    refine zh rfl (ah rfl rfl cI) (by simp; omega) ?_
    refine za rfl (zv (zj rfl (WP.skip (zw ?_))))
    have lN:=hi.1
    obtain ⟨s2,J⟩:∃st,μ.bq[i-1]?=some st:=⟨_,bh (by omega)⟩
    have Sq:=I.low s2 (br J)
    obtain ⟨id,off,e1,e2⟩:=kV (P:=Tryz.prog) s (k:=2) rfl (vg J) eC jG
    rw [show ((i-1:Nat):Int)=(i:Int)-1 by omega] at e1
    refine WP.drawn [ai,ai,ai,ai,ai,ai,ai,ai,ai,ai,ai,ai,ai,ai,ai] rfl (by kernel_rfl) (by kernel_rfl) ?_
    refine zM rfl (zN rfl (zF rfl (gF _ _) (zL rfl (s.ld (k:=0) rfl gj rfl) (zM rfl (zN rfl (zF rfl (iW _ _) (zL rfl (s.ld (k:=0) rfl qp rfl) (zM rfl (zO rfl (ah rfl rfl (by exact lG (aU (by omega) (by omega)))) ?_)))))))))
    refine zO rfl (dY (r:=.ptr id off) rfl rfl e1) (zL rfl (e2 _ dr) (aA.op rfl rfl rfl (by simp only [isEff,cq]) (bV rfl (by exact jF bF cq (eW (by omega) (by omega)))) ?_))
    refine zO rfl (ah rfl rfl (by exact bQ (eW (by omega) (by omega)))) ?_
    refine zA rfl ?_
    refine aA.nil ⟨⟨aa,aa,aa,aa,aa,aa,aa,aa,aa,aa,aa,aa,aa,aa,aa,aa⟩,?_⟩
    refine WP.ret ⟨aa,_,rfl,?_⟩
    have bS:=hi.2.1 (i-1) s2 (by omega) J
    refine ⟨rfl,μ.base+s2,rfl,.inr (.inl ⟨?_,by omega⟩),fun U _=>absurd U VW⟩
    rw [Lg.hasB,tF]
    exact ⟨s2,br J,by simp⟩
def ew (base check:Nat): List Nat:=le 8 base++le 8 check
theorem mA (a b:Nat): (ew a b).length=16:=by simp [ew,cX]
theorem CY (I:W told){a b:Nat}(s:Sat h S): Call ⟨Tryz.prog,told⟩ 111 [.ptr q 0,.int .u64 (a:Int),.int .u64 (b:Int)] h fun v h'=>Sat h' (bH v (ew a b)::S):=by
 refine Call.of_wp (I.free _ rfl) Tryz.func111 rfl rfl (zK 7 rfl (zc rfl (wu I s.yQ (by decide) (by simp)) ?_))
 intro v h s
 refine zm rfl (zc rfl (wu I s (by decide) (by simp [cX])) ?_)
 intro v h s
 exact zk 2 rfl (WP.ret ⟨aa,_,rfl,s⟩)
theorem NR (U:W told){n:Nat}{δ:Dk}(s:Sat h (bf q p μ::aD p δ::S))(I:μ.Ok)(hf:δ.aF<4294967296): Call ⟨Tryz.prog,told⟩ 68 [.ptr q 0,.int .u64 (n:Int)] h fun v h' =>
  (n<μ.base+μ.forced∧v=.int .i64 0∧Sat h' (bf q p μ::aD p δ::S)) ∨
  (μ.base+μ.forced≤n∧δ.dead=true∧v=.int .i64 9∧Sat h' (bf q p μ::aD p δ::S)) ∨
  (μ.base+μ.forced≤n∧δ.dead=false∧δ.aF=0∧v=.int .i64 9∧Sat h' (bf q p μ::aD p δ.die::S)) ∨
  (μ.base+μ.forced≤n∧δ.dead=false∧δ.aF≠0∧v=.int .i64 0∧Sat h' (bf q p { μ with forced:=μ.b.length }::aD p { δ.c_ with aL:=δ.log.length }::S)):=by
 have xo:=I.size
 have Bg:=I.forced
 have s0:=s
 obtain ⟨bv,sv,s⟩:=dc.1 s
 refine Call.of_wp (U.free _ rfl) Tryz.func68 rfl rfl (zK 9 rfl (zc rfl (th U s0 I.size I.forced) ?_))
 rintro v h' ⟨rfl,rfl⟩
 by_cases bS:n<μ.base+μ.forced
 ·skip
  refine zt rfl (ah rfl rfl bu) (by simp; omega) ?_
  exact zk 6 rfl (WP.ret ⟨aa,_,rfl,.inl ⟨bS,rfl,s0⟩⟩)
 ·have hle:μ.base+μ.forced≤n:=by omega
  refine zh rfl (ah rfl rfl bu) (by simp; omega) ?_
  refine zk 8 rfl (zf rfl (pK _ _) (zl rfl (s.ld (k:=0) rfl jR rfl) (zc rfl (Fe U (s0.ae [1]) hf) ?_)))
  rintro v h (⟨J,rfl,s⟩ | ⟨J,h0,rfl,s⟩ | ⟨J,h0,rfl,s⟩)
  ·refine aB.op rfl rfl rfl (eZ rfl) ?_
   exact zk 4 rfl (zt rfl (ah rfl rfl aX) (rfl) (zk 7 rfl (WP.ret ⟨aa,_,rfl,.inr (.inl ⟨hle,J,rfl,s.ae [1]⟩)⟩)))
  ·skip
   exact zk 5 rfl (zt rfl (ah rfl rfl aX) (rfl) (zk 7 rfl (WP.ret ⟨aa,_,rfl,.inr (.inr (.inl ⟨hle,J,h0,rfl,s.ae [1]⟩))⟩)))
  ·skip
   obtain ⟨bv,sv,s⟩:=dc.1 (s.ae [1])
   refine zk 5 rfl (zh rfl (ah rfl rfl aX) (rfl) (zk 8 rfl (zf rfl (eF _ _) (zl rfl (s.ld (k:=0) rfl bL rfl) (zo rfl (a_ rfl rfl rfl (bg aS (s.aG (k:=1) rfl (bE _ _)))) (zn rfl (zf rfl (pL _ _) ?_)))))))
   refine zS rfl (by exact s.dQ (k:=0) rfl jG rfl (by decide) rfl rfl) (fun h s => ?_)
   exact zk 5 rfl (WP.ret ⟨aa,_,rfl,.inr (.inr (.inr ⟨hle,J,h0,rfl,dc.2 ⟨bv,sv,s⟩⟩))⟩)
theorem NS (U:W told){n:Nat}{δ:Dk}(s:Sat h (bf q p μ::aD p δ::S))(I:μ.Ok)(hf:δ.aF<4294967296)(hn:n<18446744073709551616): Call ⟨Tryz.prog,told⟩ 69 [.ptr q 0,.int .u64 (n:Int)] h fun v h' =>
  (¬(μ.hasB n=true∧n<μ.base+μ.forced)∧v=.int .i64 1∧Sat h' (bf q p μ::aD p δ::S)) ∨
  (μ.hasB n=true∧n<μ.base+μ.forced∧δ.dead=true∧v=.int .i64 9∧Sat h' (bf q p μ::aD p δ::S)) ∨
  (μ.hasB n=true∧n<μ.base+μ.forced∧δ.dead=false∧δ.aF=0∧v=.int .i64 9∧Sat h' (bf q p μ::aD p δ.die::S)) ∨
  (μ.hasB n=true∧n<μ.base+μ.forced∧δ.dead=false∧δ.aF≠0∧v=.int .i64 0∧Sat h' (bf q p { μ with check:=n }::aD p { δ.c_ with mark:=ew μ.base n }::S)):=by
 have xo:=I.size
 have Bg:=I.forced
 have s0:=s
 refine Call.of_wp (U.free _ rfl) Tryz.func69 rfl rfl (zK 9 rfl (zc rfl (AN U s0 I hn) ?_))
 rintro v h' ⟨rfl,rfl⟩
 cases hh:μ.hasB n with
 | false =>
  exact zo rfl (dX rfl rfl) (zk 12 rfl (WP.ret ⟨aa,_,rfl,.inl ⟨fun e=>by simp at e,rfl,s0⟩⟩))
 | true =>
  refine zo rfl (dX rfl rfl) (zk 3 rfl (zc rfl (th U s0 I.size I.forced) ?_))
  rintro v h' ⟨rfl,rfl⟩
  by_cases J:n<μ.base+μ.forced
  ·skip
   refine zh rfl (ah rfl rfl nq) (by simp; omega) ?_
   refine zk 6 rfl ?_
   obtain ⟨bv,sv,s⟩:=dc.1 s
   have s1:=s
   refine WP.drawn [some (0,2),some (0,2),some (0,2),some (0,2),ai,ai,ai,ai,ai,ai,ai,ai,ai] rfl (by kernel_rfl) (by kernel_rfl) ?_
   refine zM rfl (zN rfl (zF rfl (pK _ _) (zL rfl (s.ld (k:=0) rfl jR rfl) (zM rfl (zM rfl (zN rfl (zF rfl (gF _ _) (zL rfl (s.ld (k:=0) rfl gj rfl) (zM rfl (aA.any rfl rfl rfl rfl (OpR.call rfl rfl rfl rfl (CY (q:=q) (a:=μ.base) (b:=n) U s)) ?_))))))))))
   intro mv h s
   have s:=s.ae [1,1,1,1,0]
   have s2:=s
   refine aA.any rfl rfl rfl rfl (OpR.call rfl rfl rfl rfl (Qg U (s.ae [3,3]) (bE _ _) hf)) ?_
   rintro v h hr
   rw [mA] at hr
   rcases hr with (⟨hd,rfl,s⟩ | ⟨_,hl,_,_⟩ | ⟨hd,_,h0,rfl,s⟩ | ⟨hd,_,h0,rfl,s⟩)
   ·have s:=(s.del 1).ae [1,1,1,0]
    refine zA rfl ?_
    refine aA.nil ⟨⟨fun _ _=>.inr ⟨rfl,⟨_,bk rfl⟩,aW _ rfl⟩,fun _ _=>.inr ⟨rfl,⟨_,j5 rfl⟩,aW _ rfl⟩,fun _ _=>.inr ⟨rfl,⟨_,jE rfl (pK _ _)⟩,aW _ rfl⟩,dO (.inr ⟨rfl,⟨_,aV rfl (s1.ld (k:=0) rfl jR rfl)⟩,aW _ rfl⟩) (.inr ⟨rfl,⟨_,aV rfl (s2.ld (k:=0) rfl jR rfl)⟩,aW _ rfl⟩),aa,aa,aa,aa,aa,aa,aa,aa,aa,aa⟩,?_⟩
    exact zK 3 rfl (zt rfl (ah rfl rfl aX) (rfl) (zk 7 rfl (WP.ret ⟨aa,_,rfl,.inr (.inl ⟨rfl,J,hd,rfl,dc.2 ⟨bv,sv,s⟩⟩)⟩)))
   ·omega
   ·have s:=(s.del 1).ae [1,1,1,0]
    refine zA rfl ?_
    refine aA.nil ⟨⟨fun _ _=>.inr ⟨rfl,⟨_,bk rfl⟩,aW _ rfl⟩,fun _ _=>.inr ⟨rfl,⟨_,j5 rfl⟩,aW _ rfl⟩,fun _ _=>.inr ⟨rfl,⟨_,jE rfl (pK _ _)⟩,aW _ rfl⟩,dO (.inr ⟨rfl,⟨_,aV rfl (s1.ld (k:=0) rfl jR rfl)⟩,aW _ rfl⟩) (.inr ⟨rfl,⟨_,aV rfl (s2.ld (k:=0) rfl jR rfl)⟩,aW _ rfl⟩),aa,aa,aa,aa,aa,aa,aa,aa,aa,aa⟩,?_⟩
    exact zK 3 rfl (zt rfl (ah rfl rfl aX) (rfl) (zk 7 rfl (WP.ret ⟨aa,_,rfl,.inr (.inr (.inl ⟨rfl,J,hd,h0,rfl,dc.2 ⟨bv,sv,s⟩⟩))⟩)))
   ·have s:=(s.del 1).ae [1,1,1,0]
    refine zA rfl ?_
    refine aA.nil ⟨⟨fun _ _=>.inr ⟨rfl,⟨_,bk rfl⟩,aW _ rfl⟩,fun _ _=>.inr ⟨rfl,⟨_,j5 rfl⟩,aW _ rfl⟩,fun _ _=>.inr ⟨rfl,⟨_,jE rfl (pK _ _)⟩,aW _ rfl⟩,dO (.inr ⟨rfl,⟨_,aV rfl (s1.ld (k:=0) rfl jR rfl)⟩,aW _ rfl⟩) (.inr ⟨rfl,⟨_,aV rfl (s2.ld (k:=0) rfl jR rfl)⟩,aW _ rfl⟩),aa,aa,aa,aa,aa,aa,aa,aa,aa,aa⟩,?_⟩
    refine zK 3 rfl (zh rfl (ah rfl rfl aX) (rfl) (zk 8 rfl (zf rfl (pM _ _) ?_)))
    refine zS rfl (by exact s.dQ (k:=0) rfl rq rfl (by decide) rfl rfl) (fun h s => ?_)
    exact zk 5 rfl (WP.ret ⟨aa,_,rfl,.inr (.inr (.inr ⟨rfl,J,hd,h0,rfl,dc.2 ⟨bv,sv,s⟩⟩))⟩)
  ·skip
   refine zt rfl (ah rfl rfl nq) (by simp; omega) ?_
   exact zk 7 rfl (WP.ret ⟨aa,_,rfl,.inl ⟨fun e=>J e.2,rfl,s0⟩⟩)
end
end Go.Proofs.YtconhghphklfjaaGreat.Am
