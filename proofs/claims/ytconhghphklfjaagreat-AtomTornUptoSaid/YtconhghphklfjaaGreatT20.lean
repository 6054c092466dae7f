/- AtomTorn: a part of its proof; conditions: its statement's. -/
import Derived.Test.YtconhghphklfjaaGreatT19
set_option linter.defProp false
namespace Go.Proofs.YtconhghphklfjaaGreat.Am
open Go
def HE:=@Tryz.underlying151
section
variable {told:dM} {h:H} {S:List ax} {X:ax} {k:Nat} {v:V} {l:List Nat}
theorem wK (I:W told){n z:Nat}(s:Sat h (bK v l::S))(J:z≤8)(U:l.length+z≤140737488355328):
  Call ⟨Tryz.prog,told⟩ 67 [v,.int .i64 (z:Int),.int .u64 (n:Int)] h fun r h'=>Sat h' (bK r (l++le z n)::S) :=
 (N7 I.SN s.wf (s.buf (k:=0) rfl) J U).mono fun _ _ ⟨h1,h2,h3⟩=>s.A3 h2 h1 h3
theorem Od (hT:W told){a z n:Nat}(s:Sat h (bK v l::S))(hz:1≤z)(HD:z≤8)(U:a+z≤l.length)(kx:l.length≤65536):
  Call ⟨Tryz.prog,told⟩ 130 [.agg [v],.int .i64 (a:Int),.int .i64 (z:Int),.int .u64 (n:Int)] h fun r h'=>r=.bE []∧Sat h' (bK v (dg l a (le z n))::S):=by
 obtain ⟨I,_,cap,_,rfl,_⟩:=s.kM (by omega)
 refine Call.of_wp (hT.free _ rfl) Tryz.func130 rfl rfl (zg rfl ?_)
 refine aB.cT s rfl rfl rfl (gL rfl rfl) (fun p4 h s => ?_)
 refine zv ?_
 have s0:=s
 refine WP.drawn [some (0,2),some (0,2),some (0,2),some (0,2),some (0,2),some (0,2),some (0,2),ai,ai,ai,ai] rfl (by kernel_rfl) (by kernel_rfl) ?_
 refine zF rfl (pX _ _) (zL rfl (s.ld (k:=0) rfl bO rfl) (zM rfl (zM rfl (zM rfl (zO rfl (ah rfl rfl (by exact bU (aY (by omega) (by omega)))) ?_)))))
 have ez:((a:Int)+(z:Int)).toNat=a+z:=by omega
 have ea:((a:Int)).toNat=a:=by omega
 refine zO rfl (cF (p:=some (.int .i64 (a:Int))) (q:=some (.int .i64 ((a:Int)+(z:Int)))) (m:=none) (p':=some a) (q':=some (a+z)) (m':=none) rfl rfl rfl rfl (by rw [fO (by omega),ea]) (by rw [fO (by omega),ez]) rfl (iN (s.buf (k:=1) rfl).view (by omega) U).1) ?_
 refine zM rfl (zM rfl (aA.any rfl rfl rfl rfl (OpR.call rfl rfl rfl rfl (wK hT s.zI HD (by simp; omega))) ?_))
 intro u h s
 have s:=s.ae [1,1,0]
 dsimp only [List.nil_append,V.cells,List.length_cons,List.length_nil,Nat.reduceAdd,bringA,getA,aU] at s
 have s1:=s
 refine aA.any rfl rfl rfl rfl (OpR.Yv rfl (s.ae [1,1]) (bM _ _) rfl rfl rfl rfl (by omega) U (by simp [cR]; omega)) ?_
 intro r h s
 have hs:∃q c,slR (V.sl I 0 l.length cap) a (a+z)=.sl I q (a+z-a) c:=by
  cases cap with
  | exact c=>exact ⟨_,_,rfl⟩
  | rest e alt=>exact ⟨_,_,rfl⟩
 obtain ⟨q,c,hs⟩:=hs
 have J:(slR (V.sl I 0 l.length cap) a (a+z)).beq (slR (V.sl I 0 l.length cap) a (a+z))=true:=by rw [hs]; exact CU _ _ _ _
 refine aA.nil ⟨⟨fun _ _=>.inr ⟨rfl,⟨_,jI rfl (pX _ _)⟩,aX _ rfl⟩,dX (.inr ⟨rfl,⟨_,aW rfl (s0.ld (k:=0) rfl bO rfl)⟩,aX _ rfl⟩) (.inr ⟨rfl,⟨_,aW rfl (s1.ld (k:=0) rfl bO rfl)⟩,aX _ rfl⟩),fun _ _=>.inr ⟨rfl,⟨_,bn rfl⟩,aX _ rfl⟩,fun _ _=>.inr ⟨rfl,⟨_,bn rfl⟩,aX _ rfl⟩,fun _ _=>.inr ⟨rfl,⟨_,bn rfl⟩,aX _ rfl⟩,fun _ _=>.inr ⟨rfl,⟨_,ah rfl rfl (by exact bU (aY (by omega) (by omega)))⟩,aX _ rfl⟩,dX (.inr ⟨rfl,⟨_,cF (p:=some (.int .i64 (a:Int))) (q:=some (.int .i64 ((a:Int)+(z:Int)))) (m:=none) (p':=some a) (q':=some (a+z)) (m':=none) rfl rfl rfl rfl (by rw [fO (by omega),ea]) (by rw [fO (by omega),ez]) rfl (iN (s0.buf (k:=1) rfl).view (by omega) U).1⟩,J⟩) (.inr ⟨rfl,⟨_,cF (p:=some (.int .i64 (a:Int))) (q:=some (.int .i64 ((a:Int)+(z:Int)))) (m:=none) (p':=some a) (q':=some (a+z)) (m':=none) rfl rfl rfl rfl (by rw [fO (by omega),ea]) (by rw [fO (by omega),ez]) rfl (iN (s1.buf (k:=1) rfl).view (by omega) U).1⟩,J⟩),aa,aa,aa,aa,aa⟩,?_⟩
 refine ⟨aa,_,rfl,rfl,?_⟩
 rw [show a+z-a=z by omega,fR (by rw [cR]; omega)] at s
 exact (s.del 1).del 1
theorem Dd (U:W told)(s:Sat h (X::S))(hX:cU X (cY v l))(J:l.length<9223372036854775808):
  Call ⟨Tryz.prog,told⟩ 82 [v] h fun r h'=>Sat h' (X::S)∧((bT l=true∧r=.bE [.agg [v],.int .i64 0])∨(bT l=false∧r=.bE [.agg [.bz],.int .i64 4])):=by
 have hv:=s.aL (k:=0) rfl hX
 refine Call.of_wp (U.free _ rfl) Tryz.func82 rfl rfl (zg rfl ?_)
 refine aB.cT s rfl rfl rfl (cI oV) (fun p2 h s => ?_)
 refine zk 6 rfl (zc rfl (Ku U (s.ae [1]) hX J) ?_)
 rintro r h' ⟨rfl,s⟩
 cases hg:bT l with
 | true =>
  have I:1≤l.length:=by
   have:l.length=512:=by simp only [bT,aZ,dZ] at hg; exact hg.1
   omega
  obtain ⟨pi,po,pc,rfl⟩:=kN hv I
  refine zo rfl (dS rfl rfl) (zk 6 rfl (zo rfl (c8 rfl (by rw [C2]; rfl)) ?_))
  refine zS rfl (s.ia (j:=1) rfl ei rfl rfl) (fun h s => ?_)
  refine zk 2 rfl ?_
  refine WP.ret ⟨aa,_,Gh rfl (s.fM (k:=1) rfl gO ei) rfl,?_⟩
  exact ⟨s.del 1,.inl ⟨rfl,rfl⟩⟩
 | false =>
  refine zo rfl (dS rfl rfl) (zk 4 rfl (zo rfl (c8 rfl (by rw [C2]; rfl)) ?_))
  refine zS rfl (s.ia (j:=1) rfl ei rfl rfl) (fun h s => ?_)
  refine zk 2 rfl ?_
  refine WP.ret ⟨aa,_,Gh rfl (s.fM (k:=1) rfl gO ei) rfl,?_⟩
  exact ⟨s.del 1,.inr ⟨rfl,rfl⟩⟩
theorem fy (I:bT l=true): l.length=512:=by simp only [bT,aZ,dZ] at I; exact I.1
theorem Oe (hT:W told)(s:Sat h (X::S))(J:cU X (cY v l))(U:l.length<9223372036854775808):
  Call ⟨Tryz.prog,told⟩ 129 [v] h fun r h'=>(bT l=true∧∃u,r=.bE [.agg [u],.int .i64 0]∧Sat h' (bK u l::X::S))∨(bT l=false∧r=.bE [.agg [.bz],.int .i64 4]∧Sat h' (X::S)):=by
 have hv:=s.aL (k:=0) rfl J
 refine Call.of_wp (hT.free _ rfl) Tryz.func129 rfl rfl (zg rfl ?_)
 refine aB.cT s rfl rfl rfl (cI oV) (fun p2 h s => ?_)
 refine zk 5 rfl (zc rfl (Dd hT (s.ae [1]) J U) ?_)
 rintro r h' ⟨s,(⟨I,rfl⟩ | ⟨I,rfl⟩)⟩
 ·have aaO:=fy I
  obtain ⟨pi,po,pc,rfl⟩:=kN hv (by omega)
  refine zk 3 rfl ?_
  refine aB.cT s rfl rfl rfl (cI oV) (fun p4 h s => ?_)
  refine zS rfl (s.ia (j:=0) rfl ei rfl rfl) (fun h s => ?_)
  refine zk 6 rfl (zh rfl (ah rfl rfl aV) (rfl) (zk 4 rfl ?_))
  have s0:=s
  refine WP.drawn [ai,ai,ai,ai,some (0,2),some (0,2),ai,ai,ai,ai] rfl (by kernel_rfl) (by kernel_rfl) ?_
  refine zF rfl (pX _ _) (zL rfl (s.ld (k:=0) rfl bO rfl) (zO rfl (bf rfl rfl rfl (p_ rfl aS)) (aA.any rfl rfl rfl rfl (OpR.wI rfl s rfl rfl rfl rfl (by omega)) ?_)))
  intro u h s
  have s:=s.ae [1,1,1,0]
  have s1:=s
  refine zF rfl (pX _ _) (zL rfl (s.ld (k:=0) rfl bO rfl) (aA.any rfl rfl rfl rfl (OpR.oX rfl (s.ae [3,1]) J rfl rfl rfl rfl (by simp; omega)) ?_))
  intro u2 h s
  rw [cW] at s
  obtain ⟨yx,_,cap,_,rfl,_⟩:=s.kM (by omega)
  have s2:=s
  refine zO rfl (c8 rfl (by rw [C2]; rfl)) ?_
  refine aA.h_ rfl rfl rfl (OpR.eA rfl rfl rfl (s.ia (j:=3) rfl ei rfl rfl)) ?_
  rintro w h ⟨rfl,s⟩
  have s3:=s
  refine zA rfl ?_
  refine aA.nil ⟨⟨aa,aa,aa,aa,fun _ _=>.inr ⟨rfl,⟨_,jI rfl (pX _ _)⟩,aX _ rfl⟩,dX (.inr ⟨rfl,⟨_,aW rfl (s0.ld (k:=0) rfl bO rfl)⟩,aX _ rfl⟩) (.inr ⟨rfl,⟨_,aW rfl (s1.ld (k:=0) rfl bO rfl)⟩,aX _ rfl⟩),aa,aa,aa,aa,aa⟩,?_⟩
  refine WP.ret ⟨aa,_,Gh rfl (s.fM (k:=3) rfl gO ei) rfl,?_⟩
  exact .inl ⟨I,_,rfl,(s.del 2).del 2⟩
 ·skip
  refine zk 3 rfl ?_
  refine aB.cT s rfl rfl rfl (cI oV) (fun p4 h s => ?_)
  refine zS rfl (s.ia (j:=0) rfl ei rfl rfl) (fun h s => ?_)
  refine zk 6 rfl (zt rfl (ah rfl rfl aV) (rfl) (zk 4 rfl (zo rfl (c8 rfl (by rw [C2]; rfl)) ?_)))
  refine zm rfl ?_
  refine zS rfl (s.ia (j:=2) rfl ei rfl rfl) (fun h s => ?_)
  refine zk 2 rfl ?_
  refine WP.ret ⟨aa,_,Gh rfl (s.fM (k:=2) rfl gO ei) rfl,?_⟩
  exact .inr ⟨I,rfl,(s.del 2).del 0⟩
def nj (l:List Nat)(n:Nat): List Nat:=dg l 4 (le 8 n)
def cO (l:List Nat)(n:Nat): List Nat:=dg (nj l n) 0 (le 4 (zV 0 ((nj l n).drop 4)))
theorem xD {n:Nat}(I:l.length=512): (nj l n).length=512:=by rw [nj,iO (by rw [cR]; omega),I]
theorem Kv (I:W told){n:Nat}(s:Sat h (X::S))(hX:cU X (cY v l))(kx:l.length<9223372036854775808):
  Call ⟨Tryz.prog,told⟩ 98 [v,.int .u64 (n:Int)] h fun r h'=>(bT l=true∧∃u,r=.bE [u,.int .i64 0]∧Sat h' (bK u (cO l n)::X::S))∨(bT l=false∧r=.bE [.bz,.int .i64 4]∧Sat h' (X::S)):=by
 refine Call.of_wp (I.free _ rfl) Tryz.func98 rfl rfl (zK 8 rfl (zc rfl (Oe I s hX kx) ?_))
 rintro r h' (⟨U,u,rfl,s⟩ | ⟨U,rfl,s⟩)
 ·have J:=fy U
  have wL:(nj l n).length=512:=xD J
  obtain ⟨yx,_,cap,_,rfl,_⟩:=s.kM (by omega)
  refine zk 3 rfl ?_
  refine aB.cT s rfl rfl rfl (cI oV) (fun p6 h s => ?_)
  refine zS rfl (s.ia (j:=0) rfl ei rfl rfl) (fun h s => ?_)
  refine zk 6 rfl (zh rfl (ah rfl rfl aV) (rfl) (zk 5 rfl (zl rfl (s.fM (k:=0) rfl gO ei) (zm rfl (zc rfl (Od (a:=4) (z:=8) I (s.ae [1]) (by decide) (by decide) (by omega) (by omega)) ?_)))))
  rintro r h' ⟨rfl,s⟩
  have s:=s.ae [1,0]
  have s:Sat _ (_::bK _ (nj l n)::_):=s
  refine zk 2 rfl ?_
  have s0:=s
  have uN:=(s.buf (k:=1) rfl).view.1
  have ec:(nj l n).length=l.length:=by omega
  rw [←ec] at *
  refine WP.drawn [some (0,2),ai,ai,ai,ai,ai,ai] rfl (by kernel_rfl) (by kernel_rfl) ?_
  refine zL rfl (s.fM (k:=0) rfl gO ei) (zF rfl (pX _ _) (zL rfl (s.ld (k:=0) rfl bO rfl) (zO rfl (cF (p:=some (.int .i64 4)) (q:=none) (m:=none) (p':=some 4) (q':=none) (m':=none) rfl rfl rfl rfl rfl rfl rfl (eC (s.buf (k:=1) rfl).view (a:=4) (by omega)).1) ?_)))
  refine aA.any rfl rfl rfl rfl (OpR.call rfl rfl rfl rfl (SO I s (k:=1) rfl (od (bM _ _) (a:=4) (by omega)) (by simp; omega))) ?_
  rintro r h' ⟨rfl,rfl⟩
  have s1:=s
  have hc:=B5 (s:=0) (l:=(nj l n).drop 4) (by decide) (fun x hx=>uN x (iC hx))
  refine aA.op rfl rfl rfl (by simp only [isEff,cx]) (bZ rfl (by exact jJ Tryz.underlying155 cx (fb (by omega) (by omega)))) ?_
  refine aA.any rfl rfl rfl rfl (OpR.call rfl rfl rfl rfl (Od (a:=0) (z:=4) I (s.ae [1]) (by decide) (by decide) (by omega) (by omega))) ?_
  rintro r h ⟨rfl,s⟩
  have s:=s.ae [1,0]
  refine aA.nil ⟨⟨dX (.inr ⟨rfl,⟨_,aW rfl (s0.fM (k:=0) rfl gO ei)⟩,aX _ rfl⟩) (.inr ⟨rfl,⟨_,aW rfl (s1.fM (k:=0) rfl gO ei)⟩,aX _ rfl⟩),aa,aa,aa,aa,aa,aa,aa⟩,?_⟩
  exact zg rfl (zf rfl (pX _ _) (zl rfl (s.ld (k:=0) rfl bO rfl) (zk 3 rfl (WP.ret ⟨aa,_,rfl,.inl ⟨U,_,rfl,s.drop⟩⟩))))
 ·skip
  refine zk 3 rfl ?_
  refine aB.cT s rfl rfl rfl (cI oV) (fun p6 h s => ?_)
  refine zS rfl (s.ia (j:=0) rfl ei rfl rfl) (fun h s => ?_)
  exact zk 6 rfl (zt rfl (ah rfl rfl aV) (rfl) (zk 8 rfl (WP.ret ⟨aa,_,rfl,.inr ⟨U,rfl,s.drop⟩⟩)))
theorem aaP {P:Program}{E:List (Nat×V)}{d:TypeId}{x:Operand}{r:V}(I:lookO E x=some v)(J:arrPtrV P d v=some r): opE P E h (.sliceToArrayPointer d x)=some (r,h):=by simp only [opE,j_,I,J,bA]
theorem T6 {P:Program}{t:TypeId}{id off n:Nat}{cap:Cap}(I:View h (.sl id off n cap) l)(J:b_ P t=some true)(hs:bJ P t=some l.length): loadV P h t (.ptr id off)=some (.agg (ofBytes l)):=by
 have:=I.rdN
 obtain ⟨rfl,U⟩:=this
 simp only [loadV,J,hs,U,iW]
theorem F7 : ∀(l m:List Nat),l.length=m.length→intsBeq .u8 (ofBytes l) (ofBytes m)=some (decide (l=m)):=by
 intro l
 induction l with
 | nil=>intro m hm; cases m with
  | nil=>rfl
  | cons x m=>simp at hm
 | cons x l J=>intro m hm; cases m with
  | nil=>simp at hm
  | cons y m =>
   have hi:=J m (by simpa using hm)
   simp only [ofBytes,bI] at hi ⊢
   simp only [intsBeq,ikBeq,iD,ag,hi,og]
   by_cases I:x=y
   ·subst I; simp
   ·have:¬ ((x:Int)=(y:Int)):=by omega
    simp [this,I]
theorem QF : buildV Tryz.prog 151 []=some (.agg (ofBytes (List.replicate 512 0))):=by kernel_rfl
theorem SP {P:Program}{t e:TypeId}{n:Nat}{x y:Operand}{m:List Nat}(hu:P.underlying t=some (.array n e))(he:P.underlying e=some (.int .u8))(hs:bJ P e=some 1)(I:l.length=n)(hm:m.length=n):
  binV P h .eql t x y (.agg (ofBytes l)) (.agg (ofBytes m))=some (.bool (decide (l=m))):=by
 simp only [binV,eqArr,hu,he,hs,dR,I,hm,dx,iD,ag]
 rw [F7 l m (by omega)]
 rfl
def dN (l:List Nat): Int:=if l=List.replicate 512 0 then 0 else if bT l=false then 4 else if dY l 0 4≠zV 0 (l.drop 4) then 8 else 0
theorem xE (hT:W told)(s:Sat h (X::S))(J:cU X (cY v l))(kx:l.length<9223372036854775808):
  Call ⟨Tryz.prog,told⟩ 46 [v] h fun r h'=>r=.int .i64 (dN l)∧Sat h' (X::S):=by
 have hv:=s.aL (k:=0) rfl J
 have hz:(List.replicate 512 0).length=512:=fE
 -- what follows when the page is no page of noughts
 refine Call.of_wp (hT.free _ rfl) Tryz.func46 rfl rfl (zK 8 rfl (zo rfl (bf rfl rfl rfl (bj aS (s.aL (k:=0) rfl J))) ?_))
 refine zd rfl (ah rfl rfl cB) ?_ ?_
 ·intro U
  have U:l.length=512:=by simp at U; omega
  obtain ⟨pi,po,pc,rfl⟩:=kN hv (by omega)
  refine zk 2 rfl (zo rfl (aaP (r:=.ptr pi po) rfl (by simp only [arrPtrV,HE]; rw [U]; rfl)) ?_)
  refine zl rfl (T6 hv Yl (by rw [U]; exact Yk)) ?_
  refine zo rfl (c8 rfl QF) ?_
  by_cases hn:l=List.replicate 512 0
  ·skip
   exact zt rfl (ah rfl rfl (SP HE Tryz.underlying5 Ss U hz)) (decide_eq_true hn) (zk 7 rfl (WP.ret ⟨aa,_,rfl,by rw [dN,aj hn],s⟩))
  ·skip
   refine zh rfl (ah rfl rfl (SP HE Tryz.underlying5 Ss U hz)) (decide_eq_false hn) (zk 7 rfl (zc rfl (Dd hT s J kx) ?_))
   rintro r h' ⟨s,(⟨hg,rfl⟩ | ⟨hg,rfl⟩)⟩
   ·refine aB.op rfl rfl rfl (bn rfl) ?_
    refine zk 2 rfl ?_
    refine aB.cT s rfl rfl rfl (cI oV) (fun p3 h s => ?_)
    dsimp only [V.cells,List.length_cons,List.length_nil,Nat.reduceAdd] at s
    refine zS rfl (s.ia (j:=0) rfl ei rfl rfl) (fun h s => ?_)
    dsimp only [setA] at s
    refine zk 3 rfl (WP.block (zK 3 rfl (zh rfl (ah rfl rfl aV) (rfl) (zk 4 rfl ?_))))
    have s0:=s
    refine WP.drawn [none,none,some (0,2),some (0,2),ai,ai,ai,ai] rfl (by kernel_rfl) (by kernel_rfl) ?_
    refine zL rfl (s.fM (k:=0) rfl gO ei) (aA.any rfl rfl rfl rfl (OpR.call rfl rfl rfl rfl (uL hT s (k:=1) rfl J (by decide) (by decide) (by decide) (by omega) (by omega))) ?_)
    rintro r h' ⟨rfl,s⟩
    have s1:=s
    refine zM rfl (zO rfl (cF (p:=some (.int .i64 4)) (q:=none) (m:=none) (p':=some 4) (q':=none) (m':=none) rfl rfl rfl rfl rfl rfl rfl (eC (s.aL (k:=1) rfl J) (a:=4) (by omega)).1) ?_)
    refine aA.any rfl rfl rfl rfl (OpR.call rfl rfl rfl rfl (SO hT s (k:=1) rfl (od J (a:=4) (by omega)) (by simp; omega))) ?_
    rintro r h' ⟨rfl,rfl⟩
    have hc:=B5 (s:=0) (l:=l.drop 4) (by decide) (fun x hx=>hv.1 x (iC hx))
    have hs:∃q c,slR (V.sl pi po l.length pc) 4 l.length=.sl pi q (l.length-4) c:=by
     cases pc with
     | exact c=>exact ⟨_,_,rfl⟩
     | rest e alt=>exact ⟨_,_,rfl⟩
    obtain ⟨q,c,hs⟩:=hs
    have FA:(slR (V.sl pi po l.length pc) 4 l.length).beq (slR (V.sl pi po l.length pc) 4 l.length)=true:=by rw [hs]; exact CU _ _ _ _
    refine aA.op rfl rfl rfl (by simp only [isEff,bG]) (bZ rfl (by exact jJ Tryz.underlying155 bG (aY (by omega) (by omega)))) ?_
    by_cases I:dY l 0 4=zV 0 (l.drop 4)
    ·skip
     refine aA.nD rfl rfl rfl rfl (ah rfl rfl aV) (by simp; exact_mod_cast I) ?_
     refine zA rfl ?_
     refine aA.nil ⟨⟨aa,aa,fun _ _=>.inr ⟨rfl,⟨_,bn rfl⟩,aX _ rfl⟩,dX (.inr ⟨rfl,⟨_,cF (p:=some (.int .i64 4)) (q:=none) (m:=none) (p':=some 4) (q':=none) (m':=none) rfl rfl rfl rfl rfl rfl rfl (eC (s0.aL (k:=1) rfl J) (a:=4) (by omega)).1⟩,FA⟩) (.inr ⟨rfl,⟨_,cF (p:=some (.int .i64 4)) (q:=none) (m:=none) (p':=some 4) (q':=none) (m':=none) rfl rfl rfl rfl rfl rfl rfl (eC (s1.aL (k:=1) rfl J) (a:=4) (by omega)).1⟩,FA⟩),aa,aa,aa,aa,aa⟩,?_⟩
     refine zj rfl (WP.skip (zg rfl (za rfl (zv ?_))))
     refine WP.ret ⟨aa,_,rfl,?_⟩
     exact ⟨by rw [dN,af hn,af (by rw [hg]; decide),af (by simpa using I)],s.drop⟩
    ·skip
     refine aA.qx rfl rfl rfl rfl (ah rfl rfl aV) (by simp; exact_mod_cast I) ?_
     refine zA rfl ?_
     refine aA.nil ⟨⟨aa,aa,fun _ _=>.inr ⟨rfl,⟨_,bn rfl⟩,aX _ rfl⟩,dX (.inr ⟨rfl,⟨_,cF (p:=some (.int .i64 4)) (q:=none) (m:=none) (p':=some 4) (q':=none) (m':=none) rfl rfl rfl rfl rfl rfl rfl (eC (s0.aL (k:=1) rfl J) (a:=4) (by omega)).1⟩,FA⟩) (.inr ⟨rfl,⟨_,cF (p:=some (.int .i64 4)) (q:=none) (m:=none) (p':=some 4) (q':=none) (m':=none) rfl rfl rfl rfl rfl rfl rfl (eC (s1.aL (k:=1) rfl J) (a:=4) (by omega)).1⟩,FA⟩),aa,aa,aa,aa,aa⟩,?_⟩
     exact zK 5 rfl (WP.ret ⟨aa,_,rfl,by rw [dN,af hn,af (by rw [hg]; decide),aj I],s.drop⟩)
   ·skip
    refine zk 3 rfl ?_
    refine aB.cT s rfl rfl rfl (cI oV) (fun p3 h s => ?_)
    refine zS rfl (s.ia (j:=0) rfl ei rfl rfl) (fun h s => ?_)
    exact zk 3 rfl (WP.block (zK 3 rfl (zt rfl (ah rfl rfl aV) (rfl) (zk 8 rfl (WP.ret ⟨aa,_,rfl,by rw [dN,af hn,aj hg],s.drop⟩)))))
 ·intro U
  have U:l.length≠512:=by simp at U; omega
  have hn:l≠List.replicate 512 0:=fun e=>U (by rw [e,hz])
  have hg:bT l=false:=by rw [bT,ew U,fh]
  refine zk 13 rfl (zc rfl (Dd hT s J kx) ?_)
  rintro r h' ⟨s,(⟨Kp,rfl⟩ | ⟨_,rfl⟩)⟩
  ·rw [hg] at Kp; cases Kp
  ·refine aB.op rfl rfl rfl (bn rfl) ?_
   refine zk 2 rfl ?_
   refine aB.cT s rfl rfl rfl (cI oV) (fun p3 h s => ?_)
   refine zS rfl (s.ia (j:=0) rfl ei rfl rfl) (fun h s => ?_)
   exact zk 3 rfl (WP.block (zK 3 rfl (zt rfl (ah rfl rfl aV) (rfl) (zk 8 rfl (WP.ret ⟨aa,_,rfl,by rw [dN,af hn,aj hg],s.drop⟩)))))
theorem sy {i b id off:Nat}(U:View h v l)(hb:l[i]?=some b)(he:indexAddrV Tryz.prog 32 v (.int .i64 (i:Int))=some (.ptr id off)): loadV Tryz.prog h 5 (.ptr id off)=some (.int .u8 (b:Int)):=by
 obtain ⟨I,off',J,e2⟩:=iq U hb
 rw [he] at J
 have e3:V.ptr id off=V.ptr I off':=bx J
 rw [e3]
 exact e2
theorem T7 (hT:W told)(s:Sat h (X::S))(I:cU X (cY v l))(kx:l.length<9223372036854775808):
  Call ⟨Tryz.prog,told⟩ 127 [v] h fun r h'=>Sat h' (X::S)∧((bT l=true∧r=.bE [.int .i64 (l.getD 12 0:Nat),.int .u64 (dY l 4 8),.int .i64 (dY l 18 4),.int .i64 (dY l 22 4),.int .i64 0]) ∨
   (bT l=false∧r=.bE [.int .i64 0,.int .u64 0,.int .i64 0,.int .i64 0,.int .i64 4])):=by
 have hv:=s.aL (k:=0) rfl I
 refine Call.of_wp (hT.free _ rfl) Tryz.func127 rfl rfl (zK 11 rfl (zc rfl (Dd hT s I kx) ?_))
 rintro r h' ⟨s,(⟨hg,rfl⟩ | ⟨hg,rfl⟩)⟩
 ·have hq:=fy hg
  obtain ⟨pi,po,pc,rfl⟩:=kN hv (by omega)
  have J:l[12]?=some (l[12]'(by omega)):=bg _
  generalize Cz:(l[12]'(by omega))=b at J
  have pR:b<256:=hv.1 b (bw J)
  have nq:l.getD 12 0=b:=by rw [kD,J]; rfl
  rw [nq]
  refine zk 3 rfl ?_
  refine aB.cT s rfl rfl rfl (cI oV) (fun p7 h s => ?_)
  refine zS rfl (s.ia (j:=0) rfl ei rfl rfl) (fun h s => ?_)
  refine zk 6 rfl (zh rfl (ah rfl rfl aV) (rfl) (zk 4 rfl ?_))
  have s0:=s
  obtain ⟨id,off,U,e2⟩:=iq (s.aL (k:=1) rfl I) J
  refine WP.drawn [some (0,4),some (0,4),some (0,4),some (0,4),ai,ai,ai,some (0,2),none,some (0,3),ai,ai,ai,ai,ai,ai] rfl (by kernel_rfl) (by kernel_rfl) ?_
  refine zM rfl (zO rfl (ej (r:=.ptr id off) rfl rfl U) (zL rfl (sy (s.aL (k:=1) rfl I) J U) (aA.op rfl rfl rfl (by simp only [isEff,bG]) (bZ rfl (by exact jJ Tryz.underlying5 bG (aY (by omega) (by omega)))) ?_)))
  refine zM rfl (zO rfl (cF (p:=some (.int .i64 4)) (q:=some (.int .i64 12)) (m:=none) (p':=some 4) (q':=some 12) (m':=none) rfl rfl rfl rfl rfl rfl rfl (iN (s.aL (k:=1) rfl I) (a:=4) (b:=12) (by omega) (by omega)).1) ?_)
  refine aA.any rfl rfl rfl rfl (OpR.call rfl rfl rfl rfl (qb hT s (k:=1) rfl (mQ I (a:=4) (b:=12) (by omega) (by omega)) (by simp; omega))) ?_
  rintro r h' ⟨rfl,rfl⟩
  have s1:=s
  refine zL rfl (s.fM (k:=0) rfl gO ei) (aA.any rfl rfl rfl rfl (OpR.call rfl rfl rfl rfl (uL hT s (k:=1) rfl I (by decide) (by decide) (by decide) (by omega) (by omega))) ?_)
  rintro r h' ⟨rfl,s⟩
  have s2:=s
  refine zL rfl (s.fM (k:=0) rfl gO ei) (aA.any rfl rfl rfl rfl (OpR.call rfl rfl rfl rfl (uL hT s (k:=1) rfl I (by decide) (by decide) (by decide) (by omega) (by omega))) ?_)
  rintro r h' ⟨rfl,s⟩
  refine zA rfl (zA rfl (zA rfl (zA rfl (zA rfl ?_))))
  refine aA.nil ⟨⟨fun _ _=>.inr ⟨rfl,⟨_,bn rfl⟩,aX _ rfl⟩,fun _ _=>.inr ⟨rfl,⟨_,ej (r:=.ptr id off) rfl rfl U⟩,aX _ rfl⟩,V8 (.inr ⟨rfl,⟨_,aW rfl (sy (s0.aL (k:=1) rfl I) J U)⟩,aX _ rfl⟩) (.inr ⟨rfl,⟨_,aW rfl (sy (s1.aL (k:=1) rfl I) J U)⟩,aX _ rfl⟩) (.inr ⟨rfl,⟨_,aW rfl (sy (s2.aL (k:=1) rfl I) J U)⟩,aX _ rfl⟩) (.inr ⟨rfl,⟨_,aW rfl (sy (s.aL (k:=1) rfl I) J U)⟩,aX _ rfl⟩),fun _ _=>.inr ⟨rfl,⟨_,bZ rfl (by exact jJ Tryz.underlying5 bG (aY (by omega) (by omega)))⟩,aX _ rfl⟩,aa,aa,aa,dX (.inr ⟨rfl,⟨_,aW rfl (s0.fM (k:=0) rfl gO ei)⟩,aX _ rfl⟩) (.inr ⟨rfl,⟨_,aW rfl (s1.fM (k:=0) rfl gO ei)⟩,aX _ rfl⟩),aa,wE (.inr ⟨rfl,⟨_,aW rfl (s0.fM (k:=0) rfl gO ei)⟩,aX _ rfl⟩) (.inr ⟨rfl,⟨_,aW rfl (s1.fM (k:=0) rfl gO ei)⟩,aX _ rfl⟩) (.inr ⟨rfl,⟨_,aW rfl (s2.fM (k:=0) rfl gO ei)⟩,aX _ rfl⟩),aa,aa,aa,aa,aa,aa,aa⟩,?_⟩
  refine WP.ret ⟨aa,_,rfl,?_⟩
  exact ⟨s.drop,.inl ⟨hg,rfl⟩⟩
 ·skip
  refine zk 3 rfl ?_
  refine aB.cT s rfl rfl rfl (cI oV) (fun p7 h s => ?_)
  refine zS rfl (s.ia (j:=0) rfl ei rfl rfl) (fun h s => ?_)
  exact zk 6 rfl (zt rfl (ah rfl rfl aV) (rfl) (zk 11 rfl (WP.ret ⟨aa,_,rfl,s.drop,.inr ⟨hg,rfl⟩⟩)))
end
structure Lg where
 base:Nat
 b:List Nat
 bu:List Nat
 forced:Nat
 check:Nat
def gR (l:List Nat): List V:=l.map fun (n:Nat)=>V.int .i64 (n:Int)
theorem kz (l:List Nat): (gR l).length=l.length:=by simp [gR]
def zY (p base:Nat)(bv I:V)(forced check:Nat): List V:=[.ptr p 0,.int .u64 (base:Int),bv,I,.int .i64 (forced:Int),.int .u64 (check:Int)]
def bh (q p:Nat)(μ:Lg): ax:=xs fun bv:V=>xs fun I:V=>star [pt q (.cells 6 (zY p μ.base bv I μ.forced μ.check) false),bK bv μ.b,.arr 1 I (gR μ.bu)]
structure Lg.Ok (μ:Lg): Prop where
 size:μ.base+μ.b.length≤1099511627776
 many:μ.bu.length≤16777216
 low:∀s∈μ.bu,s<μ.b.length
 xF:μ.bu.Pairwise (· < ·)
 forced:μ.forced≤μ.b.length
 len:μ.b.length≤16777216
 check:μ.check≤1099511627776
theorem YC {P:Program}{h:H}{t:TypeId}{x y:Operand}{a b:Nat}(I:a+b<4611686018427387904): binV P h .quo t x y (.int .i64 ((a:Int)+(b:Int))) (.int .i64 2)=some (.int .i64 (((a+b)/2:Nat):Int)):=by
 simp only [binV,ikBeq,ag,intV]
 rw [show intBeq 2 0=false from rfl,ay,JY (by omega),aY (by omega) (by omega)]
 congr 2
section
variable {told:dM} {h:H} {S:List ax} {X:ax} {k q p:Nat} {v:V} {l:List Nat} {μ:Lg}
theorem dm : Sat h (bh q p μ::S)↔∃bv I,Sat h (pt q (.cells 6 (zY p μ.base bv I μ.forced μ.check) false)::bK bv μ.b::.arr 1 I (gR μ.bu)::S):=by
 simp only [bh,gu,en,fF,cW]
theorem lC {P:Program}{t e:TypeId}{cs:List V}{i:Nat}{c:V}(s:Sat h S)(U:getA S k=some (.arr 1 v cs))(hi:cs[i]?=some c)(hu:P.underlying t=some (.slice e))(I:bJ P e=some 1):
  ∃id off,indexAddrV P t v (.int .i64 (i:Int))=some (.ptr id off)∧∀t',b_ P t'=some false→loadV P h t' (.ptr id off)=some c:=by
 have J:i<cs.length:=(List.getElem?_eq_some_iff.1 hi).1
 obtain ⟨m,r,h1,h2,h3⟩:=s.at U
 rcases h3.2 with ⟨_,rfl⟩ | ⟨id,n,cap,N,rest,rfl,hg,e1,e2,_⟩
 ·simp at hi
 ·refine ⟨id,i,?_,fun t' ht=>Kh ht (h1 _ _ hg) ?_⟩
  ·simp only [indexAddrV,hu,I,cQ]
   rw [show (decide ((0:Int)≤(i:Int))&&decide ((i:Int)<(n:Int)))=true by simp; omega,ag]
   simp
  ·rw [fV,kE J,hi]
theorem vm (I:W told)(s:Sat h (bh q p μ::S)): Call ⟨Tryz.prog,told⟩ 30 [.ptr q 0] h fun v h'=>v=.int .u64 (μ.base:Int)∧h'=h:=by
 obtain ⟨bv,J,s⟩:=dm.1 s
 exact Call.of_wp (I.free _ rfl) Tryz.func30 rfl rfl (zK 8 rfl (zf rfl (gN _ _) (zl rfl (s.ld (k:=0) rfl gx rfl) (zk 2 rfl (WP.ret ⟨aa,_,rfl,rfl,rfl⟩)))))
theorem BC (I:W told)(s:Sat h (bh q p μ::S)): Call ⟨Tryz.prog,told⟩ 60 [.ptr q 0] h fun v h'=>v=.int .u64 (μ.check:Int)∧h'=h:=by
 obtain ⟨bv,J,s⟩:=dm.1 s
 exact Call.of_wp (I.free _ rfl) Tryz.func60 rfl rfl (zK 8 rfl (zf rfl (pW _ _) (zl rfl (s.ld (k:=0) rfl gx rfl) (zk 2 rfl (WP.ret ⟨aa,_,rfl,rfl,rfl⟩)))))
theorem oh (I:W told)(s:Sat h (bh q p μ::S))(J:μ.base+μ.b.length≤1099511627776): Call ⟨Tryz.prog,told⟩ 31 [.ptr q 0] h fun v h'=>v=.int .u64 ((μ.base:Int)+(μ.b.length:Int))∧h'=h:=by
 obtain ⟨bv,U,s⟩:=dm.1 s
 refine Call.of_wp (I.free _ rfl) Tryz.func31 rfl rfl (zK 5 rfl (WP.drawn [ai,ai,ai,ai,ai,ai,ai,ai,ai,ai,ai,ai] rfl (by kernel_rfl) (by kernel_rfl) ?_))
 refine zM rfl (zN rfl (zF rfl (gN _ _) (zL rfl (s.ld (k:=0) rfl gx rfl) (zM rfl (zN rfl (zF rfl (eO _ _) (zL rfl (s.ld (k:=0) rfl bO rfl) (zO rfl (bf rfl rfl rfl (bj aS (s.aL (k:=1) rfl (bM _ _)))) (aA.op rfl rfl rfl (by simp only [isEff,cx]) (bZ rfl (by exact jJ bG cx (fb (by omega) (by omega)))) ?_)))))))))
 refine zO rfl (ah rfl rfl (by exact bU (fb (by omega) (by omega)))) ?_
 refine zA rfl ?_
 refine aA.nil ⟨⟨aa,aa,aa,aa,aa,aa,aa,aa,aa,aa,aa,aa,aa⟩,?_⟩
 refine WP.ret ⟨aa,_,rfl,?_⟩
 exact ⟨rfl,rfl⟩
theorem tu (I:W told)(s:Sat h (bh q p μ::S))(J:μ.base+μ.b.length≤1099511627776)(U:μ.forced≤μ.b.length): Call ⟨Tryz.prog,told⟩ 34 [.ptr q 0] h fun v h'=>v=.int .u64 ((μ.base:Int)+(μ.forced:Int))∧h'=h:=by
 obtain ⟨bv,sv,s⟩:=dm.1 s
 refine Call.of_wp (I.free _ rfl) Tryz.func34 rfl rfl (zK 5 rfl (WP.drawn [ai,ai,ai,ai,ai,ai,ai,ai,ai,ai,ai] rfl (by kernel_rfl) (by kernel_rfl) ?_))
 refine zM rfl (zN rfl (zF rfl (gN _ _) (zL rfl (s.ld (k:=0) rfl gx rfl) (zM rfl (zN rfl (zF rfl (pV _ _) (zL rfl (s.ld (k:=0) rfl dA rfl) (aA.op rfl rfl rfl (by simp only [isEff,cx]) (bZ rfl (by exact jJ bG cx (fb (by omega) (by omega)))) ?_))))))))
 refine zO rfl (ah rfl rfl (by exact bU (fb (by omega) (by omega)))) ?_
 refine zA rfl ?_
 refine aA.nil ⟨⟨aa,aa,aa,aa,aa,aa,aa,aa,aa,aa,aa,aa⟩,?_⟩
 refine WP.ret ⟨aa,_,rfl,?_⟩
 exact ⟨rfl,rfl⟩
def Split (μ:Lg)(n i:Nat): Prop:=i≤μ.bu.length∧(∀(j s:Nat),j<i→μ.bu[j]?=some s→μ.base+s<n)∧(∀(j s:Nat),i≤j→μ.bu[j]?=some s→n≤μ.base+s)
theorem EB {l:List Nat}(J:l.Pairwise (· < ·)){i j a b:Nat}(I:i<j)(U:l[i]?=some a)(hb:l[j]?=some b): a<b:=by
 obtain ⟨h1,rfl⟩:=List.getElem?_eq_some_iff.1 U
 obtain ⟨h2,rfl⟩:=List.getElem?_eq_some_iff.1 hb
 exact List.pairwise_iff_getElem.1 J _ _ h1 h2 I
noncomputable def lfL : Code:=cM [1,1,0,0,0] ((Tryz.f99.body).getD .skip)
theorem Of {bv sv:V}{n:Nat}(hn:n<18446744073709551616)(I:μ.Ok)(s:Sat h (pt q (.cells 6 (zY p μ.base bv sv μ.forced μ.check) false)::bK bv μ.b::.arr 1 sv (gR μ.bu)::S)): ∀(fuel lo hi:Nat) (E:List (Nat×V)) (Q:Ex→List (Nat×V)→H→Prop),hi-lo≤fuel→lo≤hi→hi≤μ.bu.length →
  (∀(j s:Nat),j<lo→μ.bu[j]?=some s→μ.base+s<n)→(∀(j s:Nat),hi≤j→μ.bu[j]?=some s→n≤μ.base+s) →
  Has E [(0,.ptr q 0),(1,.int .u64 (n:Int)),(5,.int .i64 (lo:Int)),(6,.int .i64 (hi:Int))]→(∀E' i,Split μ n i→look E' 5=some (.int .i64 (i:Int))→Q (.exit 0) E' h)→WP ⟨Tryz.prog,told⟩ 39 (.loop lfL) E h Q:=by
 have xG:=I.many
 have xH:=I.size
 intro fuel
 induction fuel with
 | zero =>
  intro lo hi E Q hf h1 h2 h3 h4 hE hq
  refine WP.loop (WP.has hE (zK 5 rfl (zh rfl (ah rfl rfl bB) (by simp; omega) ?_)))
  refine zk 2 rfl (WP.exit ?_)
  have e:lo=hi:=by omega
  exact hq _ lo ⟨by omega,h3,by rw [e]; exact h4⟩ rfl
 | succ fuel ih =>
  intro lo hi E Q hf h1 h2 h3 h4 hE hq
  by_cases bV:lo<hi
  ·skip
   refine WP.loop (WP.has hE (zK 5 rfl (zt rfl (ah rfl rfl bB) (by simp; omega) ?_)))
   refine zk 3 rfl (WP.block (zK 4 rfl (zb rfl (by exact bU (aY (by omega) (by omega))) ?_)))
   refine zb rfl (YC (by omega)) ?_
   refine zk 3 rfl ?_
   generalize hm:(lo+hi)/2=m
   have yu:lo≤m:=by omega
   have Na:m<hi:=by omega
   obtain ⟨st,J⟩:∃st,μ.bu[m]?=some st:=⟨_,bg (by omega)⟩
   have LY:=I.low st (bw J)
   have hlen:=I.len
   have hc:(gR μ.bu)[m]?=some (.int .i64 (st:Int)):=by simp [gR,J]
   obtain ⟨id,off,e1,e2⟩:=lC (P:=Tryz.prog) s (k:=2) rfl hc eH jK
   refine WP.drawn [ai,ai,ai,ai,ai,ai,ai,ai,ai,ai,ai,ai,ai,ai,ai] rfl (by kernel_rfl) (by kernel_rfl) ?_
   refine zM rfl (zN rfl (zF rfl (gN _ _) (zL rfl (s.ld (k:=0) rfl gx rfl) (zM rfl (zN rfl (zF rfl (jc _ _) (zL rfl (s.ld (k:=0) rfl qB rfl) (zM rfl (zO rfl (ej (r:=.ptr id off) rfl rfl e1) (zL rfl (e2 _ dA) (aA.op rfl rfl rfl (by simp only [isEff,cx]) (bZ rfl (by exact jJ bG cx (fb (by omega) (by omega)))) ?_)))))))))))
   refine zO rfl (ah rfl rfl (by exact bU (fb (by omega) (by omega)))) ?_
   refine zM rfl ?_
   by_cases sQ:μ.base+st<n
   ·skip
    refine aA.qx rfl rfl rfl rfl (ah rfl rfl bB) (by simp; omega) ?_
    refine aA.nil ⟨⟨aa,aa,aa,aa,aa,aa,aa,aa,aa,aa,aa,aa,aa,aa,aa,aa⟩,?_⟩
    refine zK 3 rfl (zb rfl (by exact bU (aY (by omega) (by omega))) ?_)
    refine za rfl (zv ?_)
    refine ih (m+1) hi _ Q (by omega) (by omega) h2 (fun j s hj hs => ?_) h4 ⟨rfl,rfl,rfl,rfl,aa⟩ hq
    by_cases U:j=m
    ·subst U; rw [J] at hs; injection hs with hs; omega
    ·have:=EB I.xF (show j<m by omega) hs J; omega
   ·skip
    refine aA.nD rfl rfl rfl rfl (ah rfl rfl bB) (by simp; omega) ?_
    refine aA.nil ⟨⟨aa,aa,aa,aa,aa,aa,aa,aa,aa,aa,aa,aa,aa,aa,aa,aa⟩,?_⟩
    refine zj rfl (zr rfl (zk 2 rfl (zv ?_)))
    refine ih lo m _ Q (by omega) yu (by omega) h3 (fun j s hj hs => ?_) ⟨rfl,rfl,rfl,rfl,aa⟩ hq
    by_cases U:j=m
    ·subst U; rw [J] at hs; injection hs with hs; omega
    ·have:=EB I.xF (show m<j by omega) J hs; omega
  ·skip
   refine WP.loop (WP.has hE (zK 5 rfl (zh rfl (ah rfl rfl bB) (by simp; omega) ?_)))
   refine zk 2 rfl (WP.exit ?_)
   have e:lo=hi:=by omega
   exact hq _ lo ⟨by omega,h3,by rw [e]; exact h4⟩ rfl
theorem ED (U:W told){n:Nat}(s:Sat h (bh q p μ::S))(I:μ.Ok)(hn:n<18446744073709551616): Call ⟨Tryz.prog,told⟩ 99 [.ptr q 0,.int .u64 (n:Int)] h fun v h'=>h'=h∧∃i,Split μ n i∧v=.int .i64 (i:Int):=by
 obtain ⟨bv,sv,s⟩:=dm.1 s
 refine Call.of_wp (U.free _ rfl) Tryz.func99 rfl rfl (zK 5 rfl (WP.drawn [ai,ai,ai,ai,ai,ai,ai] rfl (by kernel_rfl) (by kernel_rfl) ?_))
 refine zM rfl (zN rfl (zF rfl (jc _ _) (zL rfl (s.ld (k:=0) rfl qB rfl) (zO rfl (bf rfl rfl rfl (s.iP (n:=μ.bu.length) (j:=2) rfl (by rw [kz,dW]) (by decide) eH)) ?_))))
 refine zA rfl (zA rfl ?_)
 refine aA.nil ⟨⟨aa,aa,aa,aa,aa,aa,aa,aa⟩,?_⟩
 refine zw (WP.block ?_)
 refine Of hn I s μ.bu.length 0 μ.bu.length _ _ (by omega) (by omega) (by omega) (fun j s hj _=>by omega) (fun j s hj hs => ?_) ⟨rfl,rfl,rfl,rfl,aa⟩ (fun E' i hi J => ?_)
 ·rw [pE (by omega)] at hs; cases hs
 ·skip
  exact WP.has (F:=[(5,.int .i64 (i:Int))]) ⟨J,aa⟩ (zK 5 rfl (WP.ret ⟨aa,_,rfl,rfl,i,hi,rfl⟩))
def Lg.hasB (μ:Lg)(n:Nat): Bool:=μ.bu.any fun s=>decide (μ.base+s=n)
theorem Split.has {n i:Nat}(hs:Split μ n i)(hr:μ.bu.Pairwise (· < ·)): μ.hasB n=true↔∃s,μ.bu[i]?=some s∧μ.base+s=n:=by
 rw [Lg.hasB,rf]
 constructor
 ·rintro ⟨s,U,I⟩
  have I:μ.base+s=n:=by simpa using I
  obtain ⟨j,J⟩:=AD U
  have um:i≤j:=by
   rcases rC j i with h | h
   ·have:=hs.2.1 j s h J; omega
   ·exact h
  by_cases he:i=j
  ·subst he; exact ⟨s,J,I⟩
  ·have ZC:=(List.getElem?_eq_some_iff.1 J).1
   have hi:μ.bu[i]?=some (μ.bu[i]'(by omega)):=bg _
   have h3:=hs.2.2 i _ (aI _) hi
   have h4:=EB hr (show i<j by omega) hi J
   omega
 ·rintro ⟨s,U,I⟩
  exact ⟨s,bw U,by simpa using I⟩
theorem vn {i st:Nat}(I:μ.bu[i]?=some st): (gR μ.bu)[i]?=some (.int .i64 (st:Int)):=by simp [gR,I]
theorem Bc (hT:W told){n:Nat}(s:Sat h (bh q p μ::S))(I:μ.Ok)(hn:n<18446744073709551616): Call ⟨Tryz.prog,told⟩ 56 [.ptr q 0,.int .u64 (n:Int)] h fun v h'=>h'=h∧v=.bool (μ.hasB n):=by
 have s0:=s
 obtain ⟨bv,sv,s⟩:=dm.1 s
 have xG:=I.many
 have xH:=I.size
 refine Call.of_wp (hT.free _ rfl) Tryz.func56 rfl rfl (zK 8 rfl (zc rfl (ED hT s0 I hn) ?_))
 rintro v h' ⟨rfl,i,hi,rfl⟩
 have hh:=hi.has I.xF
 refine zk 3 rfl (WP.drawn [ai,ai,ai,ai,ai,ai,ai,ai,ai,ai,ai,ai,ai,ai,ai,ai,ai,ai,ai,ai,ai,ai,ai,ai,ai] rfl (by kernel_rfl) (by kernel_rfl) ?_)
 refine zM rfl (zM rfl (zN rfl (zF rfl (jc _ _) (zL rfl (s.ld (k:=0) rfl qB rfl) (zO rfl (bf rfl rfl rfl (s.iP (n:=μ.bu.length) (j:=2) rfl (by rw [kz,dW]) (by decide) eH)) ?_)))))
 by_cases C9:i<μ.bu.length
 ·skip
  refine aA.qx rfl rfl rfl rfl (ah rfl rfl bB) (by simp; omega) ?_
  obtain ⟨st,J⟩:∃st,μ.bu[i]?=some st:=⟨_,bg C9⟩
  have LY:=I.low st (bw J)
  obtain ⟨id,off,e1,e2⟩:=lC (P:=Tryz.prog) s (k:=2) rfl (vn J) eH jK
  refine zM rfl (zM rfl (zN rfl (zF rfl (gN _ _) (zL rfl (s.ld (k:=0) rfl gx rfl) (zM rfl (zN rfl (zF rfl (jc _ _) (zL rfl (s.ld (k:=0) rfl qB rfl) (zM rfl (zO rfl (ej (r:=.ptr id off) rfl rfl e1) (zL rfl (e2 _ dA) (aA.op rfl rfl rfl (by simp only [isEff,cx]) (bZ rfl (by exact jJ bG cx (fb (by omega) (by omega)))) ?_))))))))))))
  refine zO rfl (ah rfl rfl (by exact bU (fb (by omega) (by omega)))) ?_
  refine zM rfl ?_
  by_cases he:μ.base+st=n
  ·skip
   refine aA.qx rfl rfl rfl rfl (ah rfl rfl cB) (by simp; omega) ?_
   refine zO rfl (lz rfl rfl) (zA rfl ?_)
   refine aA.nil ⟨⟨aa,aa,aa,aa,aa,aa,aa,aa,aa,aa,aa,aa,aa,aa,aa,aa,aa,aa,aa,aa,aa,aa,aa,aa,aa,aa⟩,?_⟩
   refine WP.ret ⟨aa,_,rfl,?_⟩
   exact ⟨rfl,by rw [hh.2 ⟨st,J,he⟩]⟩
  ·skip
   refine aA.nD rfl rfl rfl rfl (ah rfl rfl cB) (by simp; omega) ?_
   refine zO rfl (lz rfl rfl) (zA rfl ?_)
   refine aA.nil ⟨⟨aa,aa,aa,aa,aa,aa,aa,aa,aa,aa,aa,aa,aa,aa,aa,aa,aa,aa,aa,aa,aa,aa,aa,aa,aa,aa⟩,?_⟩
   refine WP.ret ⟨aa,_,rfl,?_⟩
   refine ⟨rfl,?_⟩
   cases hb:μ.hasB n with
   | false=>rfl
   | true =>
    obtain ⟨s',U,h2⟩:=hh.1 hb
    rw [J] at U; have:=bx U; omega
 ·skip
  refine aA.nD rfl rfl rfl rfl (ah rfl rfl bB) (by simp; omega) ?_
  refine zM rfl (aA.no (e:=false) rfl rfl rfl rfl (aA.no (e:=false) rfl rfl rfl rfl (aA.no (e:=false) rfl rfl rfl rfl (aA.no (e:=false) rfl rfl rfl rfl (aA.no (e:=false) rfl rfl rfl rfl (aA.no (e:=false) rfl rfl rfl rfl (aA.no (e:=false) rfl rfl rfl rfl (aA.no (e:=false) rfl rfl rfl rfl (aA.no (e:=false) rfl rfl rfl rfl (aA.no (e:=false) rfl rfl rfl rfl (aA.no (e:=false) rfl rfl rfl rfl (aA.no (e:=false) rfl rfl rfl (by simp only [isEff,cx]) ?_))))))))))))
  refine aA.no (e:=false) rfl rfl rfl rfl (aA.no (e:=false) rfl rfl rfl rfl (aA.no (e:=false) rfl rfl rfl rfl (zO rfl (kL rfl rfl) (zA rfl ?_))))
  refine aA.nil ⟨⟨aa,aa,aa,aa,aa,aa,aa,aa,aa,aa,aa,aa,aa,aa,aa,aa,aa,aa,aa,aa,aa,aa,aa,aa,aa,aa⟩,?_⟩
  refine WP.ret ⟨aa,_,rfl,?_⟩
  refine ⟨rfl,?_⟩
  cases hb:μ.hasB n with
  | false=>rfl
  | true =>
   obtain ⟨s',U,h2⟩:=hh.1 hb
   have:=(List.getElem?_eq_some_iff.1 U).1
   omega
theorem Og (hT:W told){n:Nat}(s:Sat h (bh q p μ::S))(I:μ.Ok)(hn:n<18446744073709551616): Call ⟨Tryz.prog,told⟩ 70 [.ptr q 0,.int .u64 (n:Int)] h fun v h'=>h'=h∧∃r:Nat,v=.int .u64 (r:Int) ∧
  ((r=μ.base+μ.b.length∧μ.base+μ.b.length≤n)∨(μ.hasB r=true∧r≤n)∨r=μ.base)∧(μ.hasB n=true→n<μ.base+μ.b.length→r=n):=by
 have s0:=s
 obtain ⟨bv,sv,s⟩:=dm.1 s
 have xG:=I.many
 have xH:=I.size
 refine Call.of_wp (hT.free _ rfl) Tryz.func70 rfl rfl (zK 8 rfl (zc rfl (ED hT s0 I hn) ?_))
 rintro v h' ⟨rfl,i,hi,rfl⟩
 have hh:=hi.has I.xF
 refine zk 3 rfl (WP.block (zK 4 rfl (zc rfl (oh hT s0 I.size) ?_)))
 rintro v h' ⟨rfl,rfl⟩
 by_cases HF:μ.base+μ.b.length≤n
 ·skip
  refine zt rfl (ah rfl rfl nC) (by simp; omega) ?_
  refine zk 6 rfl (zc rfl (oh hT s0 I.size) ?_)
  rintro v h' ⟨rfl,rfl⟩
  exact zk 2 rfl (WP.ret ⟨aa,_,rfl,rfl,μ.base+μ.b.length,rfl,.inl ⟨rfl,HF⟩,fun _ hn=>absurd hn (by omega)⟩)
 ·skip
  refine zh rfl (ah rfl rfl nC) (by simp; omega) ?_
  refine zk 4 rfl (WP.drawn [ai,ai,ai,ai,ai,ai,ai,ai,ai,ai,ai,ai,ai,ai,ai,ai,ai,ai,ai,ai,ai,ai,ai,ai,ai] rfl (by kernel_rfl) (by kernel_rfl) ?_)
  refine zM rfl (zM rfl (zN rfl (zF rfl (jc _ _) (zL rfl (s.ld (k:=0) rfl qB rfl) (zO rfl (bf rfl rfl rfl (s.iP (n:=μ.bu.length) (j:=2) rfl (by rw [kz,dW]) (by decide) eH)) ?_)))))
  by_cases C9:i<μ.bu.length
  ·skip
   refine aA.qx rfl rfl rfl rfl (ah rfl rfl bB) (by simp; omega) ?_
   obtain ⟨st,gF⟩:∃st,μ.bu[i]?=some st:=⟨_,bg C9⟩
   have LY:=I.low st (bw gF)
   obtain ⟨id,off,e1,e2⟩:=lC (P:=Tryz.prog) s (k:=2) rfl (vn gF) eH jK
   refine zM rfl (zM rfl (zN rfl (zF rfl (gN _ _) (zL rfl (s.ld (k:=0) rfl gx rfl) (zM rfl (zN rfl (zF rfl (jc _ _) (zL rfl (s.ld (k:=0) rfl qB rfl) (zM rfl (zO rfl (ej (r:=.ptr id off) rfl rfl e1) (zL rfl (e2 _ dA) (aA.op rfl rfl rfl (by simp only [isEff,cx]) (bZ rfl (by exact jJ bG cx (fb (by omega) (by omega)))) ?_))))))))))))
   refine zO rfl (ah rfl rfl (by exact bU (fb (by omega) (by omega)))) ?_
   refine zM rfl ?_
   by_cases he:μ.base+st=n
   ·skip
    refine aA.qx rfl rfl rfl rfl (ah rfl rfl cB) (by simp; omega) ?_
    refine zO rfl (lz rfl rfl) (zA rfl ?_)
    refine aA.nil ⟨⟨aa,aa,aa,aa,aa,aa,aa,aa,aa,aa,aa,aa,aa,aa,aa,aa,aa,aa,aa,aa,aa,aa,aa,aa,aa,aa⟩,?_⟩
    exact zK 6 rfl (WP.ret ⟨aa,_,rfl,rfl,n,rfl,.inr (.inl ⟨hh.2 ⟨st,gF,he⟩,aI _⟩),fun _ _=>rfl⟩)
   ·skip
    refine aA.nD rfl rfl rfl rfl (ah rfl rfl cB) (by simp; omega) ?_
    refine zO rfl (lz rfl rfl) (zA rfl ?_)
    refine aA.nil ⟨⟨aa,aa,aa,aa,aa,aa,aa,aa,aa,aa,aa,aa,aa,aa,aa,aa,aa,aa,aa,aa,aa,aa,aa,aa,aa,aa⟩,?_⟩
    refine zK 4 rfl ?_
    have Wm:¬μ.hasB n=true:=fun U=>by
     obtain ⟨s',h1,h2⟩:=hh.1 U
     rw [gF] at h1; have:=bx h1; omega
    by_cases Wn:i=0
    ·skip
     refine zt rfl (ah rfl rfl cB) (by simp; omega) ?_
     exact zk 7 rfl (zf rfl (gN _ _) (zl rfl (s.ld (k:=0) rfl gx rfl) (zk 2 rfl (WP.ret ⟨aa,_,rfl,rfl,μ.base,rfl,.inr (.inr rfl),fun U _=>absurd U (Wm)⟩))))
    ·skip
     refine zh rfl (ah rfl rfl cB) (by simp; omega) ?_
     refine za rfl (zv (zj rfl (WP.skip (zw ?_))))
     obtain ⟨s2,J⟩:∃st,μ.bu[i-1]?=some st:=⟨_,bg (by omega)⟩
     have SQ:=I.low s2 (bw J)
     obtain ⟨id,off,e1,e2⟩:=lC (P:=Tryz.prog) s (k:=2) rfl (vn J) eH jK
     rw [show ((i-1:Nat):Int)=(i:Int)-1 by omega] at e1
     refine WP.drawn [ai,ai,ai,ai,ai,ai,ai,ai,ai,ai,ai,ai,ai,ai,ai] rfl (by kernel_rfl) (by kernel_rfl) ?_
     refine zM rfl (zN rfl (zF rfl (gN _ _) (zL rfl (s.ld (k:=0) rfl gx rfl) (zM rfl (zN rfl (zF rfl (jc _ _) (zL rfl (s.ld (k:=0) rfl qB rfl) (zM rfl (zO rfl (ah rfl rfl (by exact lV (aY (by omega) (by omega)))) ?_)))))))))
     refine zO rfl (ej (r:=.ptr id off) rfl rfl e1) (zL rfl (e2 _ dA) (aA.op rfl rfl rfl (by simp only [isEff,cx]) (bZ rfl (by exact jJ bG cx (fb (by omega) (by omega)))) ?_))
     refine zO rfl (ah rfl rfl (by exact bU (fb (by omega) (by omega)))) ?_
     refine zA rfl ?_
     refine aA.nil ⟨⟨aa,aa,aa,aa,aa,aa,aa,aa,aa,aa,aa,aa,aa,aa,aa,aa⟩,?_⟩
     refine WP.ret ⟨aa,_,rfl,?_⟩
     have bV:=hi.2.1 (i-1) s2 (by omega) J
     refine ⟨rfl,μ.base+s2,rfl,.inr (.inl ⟨?_,by omega⟩),fun U _=>absurd U Wm⟩
     rw [Lg.hasB,rf]
     exact ⟨s2,bw J,by simp⟩
  ·skip
   refine aA.nD rfl rfl rfl rfl (ah rfl rfl bB) (by simp; omega) ?_
   refine zM rfl (aA.no (e:=false) rfl rfl rfl rfl (aA.no (e:=false) rfl rfl rfl rfl (aA.no (e:=false) rfl rfl rfl rfl (aA.no (e:=false) rfl rfl rfl rfl (aA.no (e:=false) rfl rfl rfl rfl (aA.no (e:=false) rfl rfl rfl rfl (aA.no (e:=false) rfl rfl rfl rfl (aA.no (e:=false) rfl rfl rfl rfl (aA.no (e:=false) rfl rfl rfl rfl (aA.no (e:=false) rfl rfl rfl rfl (aA.no (e:=false) rfl rfl rfl rfl (aA.no (e:=false) rfl rfl rfl (by simp only [isEff,cx]) ?_))))))))))))
   refine aA.no (e:=false) rfl rfl rfl rfl (aA.no (e:=false) rfl rfl rfl rfl (aA.no (e:=false) rfl rfl rfl rfl (zO rfl (kL rfl rfl) (zA rfl ?_))))
   refine aA.nil ⟨⟨aa,aa,aa,aa,aa,aa,aa,aa,aa,aa,aa,aa,aa,aa,aa,aa,aa,aa,aa,aa,aa,aa,aa,aa,aa,aa⟩,?_⟩
   refine zK 4 rfl ?_
   have Wo:¬μ.hasB n=true:=fun U=>by
    obtain ⟨s',h1,h2⟩:=hh.1 U
    have:=(List.getElem?_eq_some_iff.1 h1).1
    omega
   by_cases Wn:i=0
   ·skip
    refine zt rfl (ah rfl rfl cB) (by simp; omega) ?_
    exact zk 7 rfl (zf rfl (gN _ _) (zl rfl (s.ld (k:=0) rfl gx rfl) (zk 2 rfl (WP.ret ⟨aa,_,rfl,rfl,μ.base,rfl,.inr (.inr rfl),fun U _=>absurd U (Wo)⟩))))
   ·skip
    refine zh rfl (ah rfl rfl cB) (by simp; omega) ?_
    refine za rfl (zv (zj rfl (WP.skip (zw ?_))))
    have lZ:=hi.1
    obtain ⟨s2,J⟩:∃st,μ.bu[i-1]?=some st:=⟨_,bg (by omega)⟩
    have SQ:=I.low s2 (bw J)
    obtain ⟨id,off,e1,e2⟩:=lC (P:=Tryz.prog) s (k:=2) rfl (vn J) eH jK
    rw [show ((i-1:Nat):Int)=(i:Int)-1 by omega] at e1
    refine WP.drawn [ai,ai,ai,ai,ai,ai,ai,ai,ai,ai,ai,ai,ai,ai,ai] rfl (by kernel_rfl) (by kernel_rfl) ?_
    refine zM rfl (zN rfl (zF rfl (gN _ _) (zL rfl (s.ld (k:=0) rfl gx rfl) (zM rfl (zN rfl (zF rfl (jc _ _) (zL rfl (s.ld (k:=0) rfl qB rfl) (zM rfl (zO rfl (ah rfl rfl (by exact lV (aY (by omega) (by omega)))) ?_)))))))))
    refine zO rfl (ej (r:=.ptr id off) rfl rfl e1) (zL rfl (e2 _ dA) (aA.op rfl rfl rfl (by simp only [isEff,cx]) (bZ rfl (by exact jJ bG cx (fb (by omega) (by omega)))) ?_))
    refine zO rfl (ah rfl rfl (by exact bU (fb (by omega) (by omega)))) ?_
    refine zA rfl ?_
    refine aA.nil ⟨⟨aa,aa,aa,aa,aa,aa,aa,aa,aa,aa,aa,aa,aa,aa,aa,aa⟩,?_⟩
    refine WP.ret ⟨aa,_,rfl,?_⟩
    have bV:=hi.2.1 (i-1) s2 (by omega) J
    refine ⟨rfl,μ.base+s2,rfl,.inr (.inl ⟨?_,by omega⟩),fun U _=>absurd U Wo⟩
    rw [Lg.hasB,rf]
    exact ⟨s2,bw J,by simp⟩
def eV (base check:Nat): List Nat:=le 8 base++le 8 check
theorem nH (a b:Nat): (eV a b).length=16:=by simp [eV,cR]
theorem De (I:W told){a b:Nat}(s:Sat h S): Call ⟨Tryz.prog,told⟩ 111 [.ptr q 0,.int .u64 (a:Int),.int .u64 (b:Int)] h fun v h'=>Sat h' (bK v (eV a b)::S):=by
 refine Call.of_wp (I.free _ rfl) Tryz.func111 rfl rfl (zK 7 rfl (zc rfl (wK I s.zI (by decide) (by simp)) ?_))
 intro v h s
 refine zm rfl (zc rfl (wK I s (by decide) (by simp [cR])) ?_)
 intro v h s
 exact zk 2 rfl (WP.ret ⟨aa,_,rfl,s⟩)
theorem Oh (U:W told){n:Nat}{δ:Dk}(s:Sat h (bh q p μ::aG p δ::S))(I:μ.Ok)(hf:δ.aD<4294967296): Call ⟨Tryz.prog,told⟩ 68 [.ptr q 0,.int .u64 (n:Int)] h fun v h' =>
  (n<μ.base+μ.forced∧v=.int .i64 0∧Sat h' (bh q p μ::aG p δ::S)) ∨
  (μ.base+μ.forced≤n∧δ.dead=true∧v=.int .i64 9∧Sat h' (bh q p μ::aG p δ::S)) ∨
  (μ.base+μ.forced≤n∧δ.dead=false∧δ.aD=0∧v=.int .i64 9∧Sat h' (bh q p μ::aG p δ.die::S)) ∨
  (μ.base+μ.forced≤n∧δ.dead=false∧δ.aD≠0∧v=.int .i64 0∧Sat h' (bh q p { μ with forced:=μ.b.length }::aG p { δ.c9 with aJ:=δ.log.length }::S)):=by
 have xH:=I.size
 have qF:=I.forced
 have s0:=s
 obtain ⟨bv,sv,s⟩:=dm.1 s
 refine Call.of_wp (U.free _ rfl) Tryz.func68 rfl rfl (zK 9 rfl (zc rfl (tu U s0 I.size I.forced) ?_))
 rintro v h' ⟨rfl,rfl⟩
 by_cases bV:n<μ.base+μ.forced
 ·skip
  refine zt rfl (ah rfl rfl bB) (by simp; omega) ?_
  exact zk 6 rfl (WP.ret ⟨aa,_,rfl,.inl ⟨bV,rfl,s0⟩⟩)
 ·have hle:μ.base+μ.forced≤n:=by omega
  refine zh rfl (ah rfl rfl bB) (by simp; omega) ?_
  refine zk 8 rfl (zf rfl (pU _ _) (zl rfl (s.ld (k:=0) rfl jL rfl) (zc rfl (Fy U (s0.ae [1]) hf) ?_)))
  rintro v h (⟨J,rfl,s⟩ | ⟨J,h0,rfl,s⟩ | ⟨J,h0,rfl,s⟩)
  ·refine aB.op rfl rfl rfl (fg rfl) ?_
   exact zk 4 rfl (zt rfl (ah rfl rfl aV) (rfl) (zk 7 rfl (WP.ret ⟨aa,_,rfl,.inr (.inl ⟨hle,J,rfl,s.ae [1]⟩)⟩)))
  ·skip
   exact zk 5 rfl (zt rfl (ah rfl rfl aV) (rfl) (zk 7 rfl (WP.ret ⟨aa,_,rfl,.inr (.inr (.inl ⟨hle,J,h0,rfl,s.ae [1]⟩))⟩)))
  ·skip
   obtain ⟨bv,sv,s⟩:=dm.1 (s.ae [1])
   refine zk 5 rfl (zh rfl (ah rfl rfl aV) (rfl) (zk 8 rfl (zf rfl (eO _ _) (zl rfl (s.ld (k:=0) rfl bO rfl) (zo rfl (bf rfl rfl rfl (bj aS (s.aL (k:=1) rfl (bM _ _)))) (zn rfl (zf rfl (pV _ _) ?_)))))))
   refine zS rfl (by exact s.ee (k:=0) rfl jK rfl (by decide) rfl rfl) (fun h s => ?_)
   exact zk 5 rfl (WP.ret ⟨aa,_,rfl,.inr (.inr (.inr ⟨hle,J,h0,rfl,dm.2 ⟨bv,sv,s⟩⟩))⟩)
theorem Oi (U:W told){n:Nat}{δ:Dk}(s:Sat h (bh q p μ::aG p δ::S))(I:μ.Ok)(hf:δ.aD<4294967296)(hn:n<18446744073709551616): Call ⟨Tryz.prog,told⟩ 69 [.ptr q 0,.int .u64 (n:Int)] h fun v h' =>
  (¬(μ.hasB n=true∧n<μ.base+μ.forced)∧v=.int .i64 1∧Sat h' (bh q p μ::aG p δ::S)) ∨
  (μ.hasB n=true∧n<μ.base+μ.forced∧δ.dead=true∧v=.int .i64 9∧Sat h' (bh q p μ::aG p δ::S)) ∨
  (μ.hasB n=true∧n<μ.base+μ.forced∧δ.dead=false∧δ.aD=0∧v=.int .i64 9∧Sat h' (bh q p μ::aG p δ.die::S)) ∨
  (μ.hasB n=true∧n<μ.base+μ.forced∧δ.dead=false∧δ.aD≠0∧v=.int .i64 0∧Sat h' (bh q p { μ with check:=n }::aG p { δ.c9 with mark:=eV μ.base n }::S)):=by
 have xH:=I.size
 have qF:=I.forced
 have s0:=s
 refine Call.of_wp (U.free _ rfl) Tryz.func69 rfl rfl (zK 9 rfl (zc rfl (Bc U s0 I hn) ?_))
 rintro v h' ⟨rfl,rfl⟩
 cases hh:μ.hasB n with
 | false =>
  exact zo rfl (dS rfl rfl) (zk 12 rfl (WP.ret ⟨aa,_,rfl,.inl ⟨fun e=>by simp at e,rfl,s0⟩⟩))
 | true =>
  refine zo rfl (dS rfl rfl) (zk 3 rfl (zc rfl (tu U s0 I.size I.forced) ?_))
  rintro v h' ⟨rfl,rfl⟩
  by_cases J:n<μ.base+μ.forced
  ·skip
   refine zh rfl (ah rfl rfl nC) (by simp; omega) ?_
   refine zk 6 rfl ?_
   obtain ⟨bv,sv,s⟩:=dm.1 s
   have s1:=s
   refine WP.drawn [some (0,2),some (0,2),some (0,2),some (0,2),ai,ai,ai,ai,ai,ai,ai,ai,ai] rfl (by kernel_rfl) (by kernel_rfl) ?_
   refine zM rfl (zN rfl (zF rfl (pU _ _) (zL rfl (s.ld (k:=0) rfl jL rfl) (zM rfl (zM rfl (zN rfl (zF rfl (gN _ _) (zL rfl (s.ld (k:=0) rfl gx rfl) (zM rfl (aA.any rfl rfl rfl rfl (OpR.call rfl rfl rfl rfl (De (q:=q) (a:=μ.base) (b:=n) U s)) ?_))))))))))
   intro mv h s
   have s:=s.ae [1,1,1,1,0]
   have s2:=s
   refine aA.any rfl rfl rfl rfl (OpR.call rfl rfl rfl rfl (QA U (s.ae [3,3]) (bM _ _) hf)) ?_
   rintro v h hr
   rw [nH] at hr
   rcases hr with (⟨hd,rfl,s⟩ | ⟨_,hl,_,_⟩ | ⟨hd,_,h0,rfl,s⟩ | ⟨hd,_,h0,rfl,s⟩)
   ·have s:=(s.del 1).ae [1,1,1,0]
    refine zA rfl ?_
    refine aA.nil ⟨⟨fun _ _=>.inr ⟨rfl,⟨_,bn rfl⟩,aX _ rfl⟩,fun _ _=>.inr ⟨rfl,⟨_,kq rfl⟩,aX _ rfl⟩,fun _ _=>.inr ⟨rfl,⟨_,jI rfl (pU _ _)⟩,aX _ rfl⟩,dX (.inr ⟨rfl,⟨_,aW rfl (s1.ld (k:=0) rfl jL rfl)⟩,aX _ rfl⟩) (.inr ⟨rfl,⟨_,aW rfl (s2.ld (k:=0) rfl jL rfl)⟩,aX _ rfl⟩),aa,aa,aa,aa,aa,aa,aa,aa,aa,aa⟩,?_⟩
    exact zK 3 rfl (zt rfl (ah rfl rfl aV) (rfl) (zk 7 rfl (WP.ret ⟨aa,_,rfl,.inr (.inl ⟨rfl,J,hd,rfl,dm.2 ⟨bv,sv,s⟩⟩)⟩)))
   ·omega
   ·have s:=(s.del 1).ae [1,1,1,0]
    refine zA rfl ?_
    refine aA.nil ⟨⟨fun _ _=>.inr ⟨rfl,⟨_,bn rfl⟩,aX _ rfl⟩,fun _ _=>.inr ⟨rfl,⟨_,kq rfl⟩,aX _ rfl⟩,fun _ _=>.inr ⟨rfl,⟨_,jI rfl (pU _ _)⟩,aX _ rfl⟩,dX (.inr ⟨rfl,⟨_,aW rfl (s1.ld (k:=0) rfl jL rfl)⟩,aX _ rfl⟩) (.inr ⟨rfl,⟨_,aW rfl (s2.ld (k:=0) rfl jL rfl)⟩,aX _ rfl⟩),aa,aa,aa,aa,aa,aa,aa,aa,aa,aa⟩,?_⟩
    exact zK 3 rfl (zt rfl (ah rfl rfl aV) (rfl) (zk 7 rfl (WP.ret ⟨aa,_,rfl,.inr (.inr (.inl ⟨rfl,J,hd,h0,rfl,dm.2 ⟨bv,sv,s⟩⟩))⟩)))
   ·have s:=(s.del 1).ae [1,1,1,0]
    refine zA rfl ?_
    refine aA.nil ⟨⟨fun _ _=>.inr ⟨rfl,⟨_,bn rfl⟩,aX _ rfl⟩,fun _ _=>.inr ⟨rfl,⟨_,kq rfl⟩,aX _ rfl⟩,fun _ _=>.inr ⟨rfl,⟨_,jI rfl (pU _ _)⟩,aX _ rfl⟩,dX (.inr ⟨rfl,⟨_,aW rfl (s1.ld (k:=0) rfl jL rfl)⟩,aX _ rfl⟩) (.inr ⟨rfl,⟨_,aW rfl (s2.ld (k:=0) rfl jL rfl)⟩,aX _ rfl⟩),aa,aa,aa,aa,aa,aa,aa,aa,aa,aa⟩,?_⟩
    refine zK 3 rfl (zh rfl (ah rfl rfl aV) (rfl) (zk 8 rfl (zf rfl (pW _ _) ?_)))
    refine zS rfl (by exact s.ee (k:=0) rfl rH rfl (by decide) rfl rfl) (fun h s => ?_)
    exact zk 5 rfl (WP.ret ⟨aa,_,rfl,.inr (.inr (.inr ⟨rfl,J,hd,h0,rfl,dm.2 ⟨bv,sv,s⟩⟩))⟩)
  ·skip
   refine zt rfl (ah rfl rfl nC) (by simp; omega) ?_
   exact zk 7 rfl (WP.ret ⟨aa,_,rfl,.inl ⟨fun e=>J e.2,rfl,s0⟩⟩)
end
end Go.Proofs.YtconhghphklfjaaGreat.Am
