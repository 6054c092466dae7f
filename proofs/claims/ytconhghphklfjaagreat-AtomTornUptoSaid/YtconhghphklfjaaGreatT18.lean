/- AtomTorn: a part of its proof; conditions: its statement's. -/
import Derived.Test.YtconhghphklfjaaGreatT16
import Derived.Test.YtconhghphklfjaaGreatT17
import Derived.Test.YtconhghphklfjaaGreatT13
import Derived.Test.YtconhghphklfjaaGreatT15
set_option linter.defProp false
namespace Go.Proofs.YtconhghphklfjaaGreat.Am
open Go Go.Maps Go.Sort Go.Shelf Go.RowKit
def uI:=@Tryz.underlying119
abbrev ai {α:Type}:Option α:=none
theorem Yy (m:Nat): AnyZI.SortsIn Tryz.prog Tryz.sorted50_ren Fence.wide m :=
 ⟨fun kQ off cap U W hH I J=>callsIn_wide.2 (AnyM.slices_Sort_int Tryz.sort91 kQ off cap U W hH I J),
  fun p cap W=>callsIn_wide.2 (AnyM.slices_Sort_int_none Tryz.sort91 p cap W)⟩
theorem Ez {g:Nat}(eg:∀args w,(callFunc g args).run Tryz.prog w=.ok (.enter g args) w){Bm:Nat}{U:DataW Unit}{w:World}(qt:Maps.size U≤maxLen)(I:Maps.size U*8≤140737488355328)
 (aaK:SeqGives Fence.wide 2 Tryz.prog g #[.pointer (some ⟨Bm,0,none⟩)] encZ (fun J=>J.Perm (intKeys U)) (Maps.size U) w):
  Calls Tryz.prog 50 #[.func (.func g) #[] #[.pointer (some ⟨Bm,0,none⟩)]] w fun e w'=>∃(v:Value) (J:List Int),e=.returned v∧J.Perm (intKeys U) ∧
   w'.ownsRow w.heap.size 3 1 v J.length ((J.mergeSort (fun x y=>decide (x≤y))).map encZ)∧(v=.slice none 0 0↔J=[])∧Below w.heap.size w w' :=
 (callsIn_wide (n:=5)).1 (AnyZI.sorted_in Tryz.sorted50 Fence.wide 5 aa aa aa aa rfl (by omega) (Yy _) (enters_of Tryz.func91 (by kernel_rfl) rfl) g _ aa eg _ _ qt I _ aaK)
def A8 : List Nat:=[92,117,133]
theorem N6 : Fv Tryz.prog 50 3 A8:=by
 intro g hg Bm b nn D0 w hB hm J U I
 simp only [A8,fo,mo,rD] at hg
 rcases hg with rfl | rfl | rfl
 ·exact Ez (enters_of Tryz.func92 (by kernel_rfl) rfl) U I (AnyZI.keys_gives (ρ:=Tryz.keys51_ren) { Tryz.keys51 with } Fence.wide _ aa rfl (by omega) Bm b nn D0 w hB hm J)
 ·exact Ez (enters_of Tryz.func117 (by kernel_rfl) rfl) U I (AnyZI.keys_gives (ρ:=Tryz.keys73_ren) { Tryz.keys73 with } Fence.wide _ aa rfl (by omega) Bm b nn D0 w hB hm J)
 ·exact Ez (enters_of Tryz.func133 (by kernel_rfl) rfl) U I (AnyZI.keys_gives (ρ:=Tryz.keys109_ren) { Tryz.keys109 with } Fence.wide _ aa rfl (by omega) Bm b nn D0 w hB hm J)
end Go.Proofs.YtconhghphklfjaaGreat.Am
namespace Go.Proofs.YtconhghphklfjaaGreat.Am
open Go
def Hv : List Nat:=[67,135,136,121,120,84,100,88]
structure Std (told:dM): Prop where
 free:∀f,inL Hv f=true→told f=none
 more:told 119=some toldMore
theorem wrap_u64 {n:Nat}(h:n<18446744073709551616): IntKind.wrap .u64 (n:Int)=(n:Int):=by
 simp only [IntKind.wrap,IntKind.bits,IntKind.signed,fh,eY,bN]
 omega
theorem wrap_u8 (n:Nat): IntKind.wrap .u8 (n:Int)=((n%256:Nat):Int):=by
 simp only [IntKind.wrap,IntKind.bits,IntKind.signed,fh,eY,bN]
 omega
def digits : Nat→Nat→List Nat
 | 0,n=>[n%128]
 | k+1,n=>if n<128 then [n] else (n%128+128)::digits k (n/128)
set_option maxRecDepth 10000 in
theorem Yz {n:Nat}(h:n<256): Nat.lor n 128=n%128+128:=by
 have:∀m:Fin 256,Nat.lor m.1 128=m.1%128+128:=by decide
 exact this ⟨n,h⟩
theorem L1 {n:Nat}(h:n<256): intV .or .u8 (n:Int) 128=some (.int .u8 ((n%128+128:Nat):Int)):=by
 have I:((n:Int)%(2^(IntKind.u8).bits:Int)).toNat=n:=by simp only [IntKind.bits]; omega
 have J:((128:Int)%(2^(IntKind.u8).bits:Int)).toNat=128:=by simp [IntKind.bits]
 simp only [intV,bitsV,I,J,Yz h,wrap_u8]
 congr 2
 omega
theorem aaL {n:Nat}: shiftV .shr .u64 (n:Int) 7=some (.int .u64 ((n/128:Nat):Int)):=by
 simp only [shiftV,IntKind.bits]
 have:(Int.toNat 7)=7:=rfl
 simp [this,DO]
section
variable {told:dM}
noncomputable def ZE : Code:=unloop (unblk (leftC (cG ((Tryz.f135.body).getD .skip))))
theorem vH {h:H}{n:Nat}: convV Tryz.prog h 35 5 (.int .u64 (n:Int))=some (.int .u8 ((n%256:Nat):Int),h):=by
 simp only [convV,cx,Tryz.underlying5,wrap_u8]
theorem jP {k n:Nat}(h:n<128): digits k n=[n]:=by
 cases k with
 | zero=>simp [digits,gJ h]
 | succ k=>simp [digits,h]
theorem Db {Q:Ex→List (Nat×V)→H→Prop}{E:List (Nat×V)}{h:H}{n:Nat}(U:n<128)(I:look E 1=some (.int .u64 (n:Int)))
 (J:Q (.exit 0) ((6,.bool false)::(5,.int .u64 (n:Int))::E) h): WP ⟨Tryz.prog,told⟩ 20 (.loop ZE) E h Q:=by
 refine WP.loop (WP.seq (WP.seq (WP.region rfl ?_)))
 refine zo rfl (bn I) (zo rfl (ah (v:=.int .u64 (n:Int)) (u:=.int .u64 128) (r:=.bool false) rfl rfl (by simp only [binV,ikBeq,ag,intV]; congr 2; simp; omega)) ?_)
 exact aB.nil (WP.cond (t:=false) rfl (WP.exit J))
theorem Jj : ∀(k n:Nat) (l:List Nat) (s:V) (h:H) (E:List (Nat×V)) (Q:Ex→List (Nat×V)→H→Prop),mA h→j4 h s l→n<128^(k+1)→k≤9→l.length+k+1≤140737488355328 →
  look E 0=some s→look E 1=some (.int .u64 (n:Int)) →
  (∀E' h' s' l' (m:Nat),look E' 0=some s'→look E' 1=some (.int .u64 (m:Int))→m<128→l'++[m]=l++digits k n→j4 h' s' l'→eN (2*k) (rowIds s) h h'→(∀i∈rowIds s',i∈rowIds s∨h.next≤i)→Q (.exit 0) E' h') →
  WP ⟨Tryz.prog,told⟩ 20 (.loop ZE) E h Q:=by
 intro k
 induction k with
 | zero =>
  intro n l s h E Q hw hs hn _ _ h0 J hq
  have I:n<128:=by simpa using hn
  exact Db I J (hq _ h s l n h0 J I (by rw [jP I]) hs (eN.refl hw _) (fun i hi=>.inl hi))
 | succ k ih =>
  intro n l s h E Q hw hs hn hk hl h0 J hq
  by_cases I:n<128
  ·exact Db I J (hq _ h s l n h0 J I (by rw [jP I]) hs ((eN.refl hw _).mono (eM _) (fun _ h=>h)) (fun i hi=>.inl hi))
  ·have hd:n/128<128^(k+1):=by
    rw [DS (by omega)]
    rw [pO] at hn
    exact hn
   refine WP.loop (WP.seq (WP.seq (WP.region rfl ?_)))
   refine zo rfl (bn J) (zo rfl (ah (v:=.int .u64 (n:Int)) (u:=.int .u64 128) (r:=.bool true) rfl rfl (by simp only [binV,ikBeq,ag,intV]; congr 2; simp; omega)) ?_)
   refine aB.nil (WP.cond (t:=true) rfl (WP.skip ?_))
   refine WP.block (WP.seq (WP.region rfl ?_))
   refine zo rfl (bn h0) (zo rfl (bn J) (zo rfl (bZ (v:=.int .u64 (n:Int)) rfl vH) (zo rfl (ah (v:=.int .u8 ((n%256:Nat):Int)) (u:=.int .u8 128) (r:=.int .u8 ((n%256%128+128:Nat):Int)) rfl rfl (by simp only [binV,ikBeq,ag]; exact L1 (by omega))) ?_)))
   refine aB.LI (b:=n%256%128+128) rfl hw rfl rfl rfl rfl rfl rfl (by omega) (fun v h₁ b1 k1 f1 => ?_)
   have yO:j4 h₁ s l:=hs.cX hw k1 (fun i _=>mo)
   refine aB.app (s:=s) (x:=v) rfl k1.wf rfl rfl rfl rfl rfl rfl rfl yO b1.view (by simp; omega) (fun v2 U b2 k2 f2 => ?_)
   have Kr:eN 2 (rowIds s) h U:=(k1.mono (aI _) (fun i hi=>by simp at hi)).trans k2 (fun i hi=>.inl hi)
   refine za rfl ?_
   refine aB.nil (WP.region rfl ?_)
   refine zo rfl (bn J) (zo rfl (ah (v:=.int .u64 (n:Int)) (u:=.int .u64 7) (r:=.int .u64 ((n/128:Nat):Int)) rfl rfl (by simp only [binV]; exact aaL)) ?_)
   refine zk 2 rfl ?_
   refine ih (n/128) (l++[n%256%128+128]) v2 U _ Q Kr.wf b2 hd (by omega) (by simp; omega) rfl rfl (fun E' h' s' l' m q1 q2 q3 q4 q5 q6 q7 => ?_)
   refine hq E' h' s' l' m q1 q2 q3 ?_ q5 ?_ (fun i hi => ?_)
   ·rw [q4]
    simp only [digits,af I,bH,List.singleton_append]
    congr 2
    omega
   ·exact (Kr.trans q6 (fun i hi=>(f2 i hi).imp_right (fun h=>cy k1.le h))).mono (by omega) (fun i hi=>hi)
   ·rcases q7 i hi with h3 | h3
    ·exact (f2 i h3).imp_right (fun h=>cy k1.le h)
    ·exact .inr (cy Kr.le h3)
theorem Fw (hT:Std told){h:H}{s:V}{l:List Nat}{n k:Nat}(hw:mA h)(hs:j4 h s l)(hn:n<128^(k+1))(hk:k≤9)(hl:l.length+k+1≤140737488355328):
  Call ⟨Tryz.prog,told⟩ 135 [s,.int .u64 (n:Int)] h fun v h'=>j4 h' v (l++digits k n)∧eN (2*k+2) (rowIds s) h h'∧∀i∈rowIds v,i∈rowIds s∨h.next≤i:=by
 refine Call.of_wp (hT.free _ rfl) Tryz.func135 rfl rfl ?_
 refine WP.seq (WP.region rfl (aB.op rfl rfl rfl (fg rfl) (aB.nil ?_)))
 refine WP.seq (WP.block ?_)
 refine Jj k n l s h _ _ hw hs hn hk hl rfl rfl (fun E' h' s' l' m q1 q2 q3 q4 q5 J q7 => ?_)
 have yl:l'.length=l.length+(digits k n).length-1:=by
  have:=iZ List.length q4
  simp at this
  omega
 have U:∀(k n:Nat),(digits k n).length≤k+1:=by
  intro k
  induction k with
  | zero=>intro n; simp [digits]
  | succ k ih =>
   intro n
   unfold digits
   split
   ·simp
   ·simp only [bl]; have:=ih (n/128); omega
 have aci:=U k n
 refine WP.seq (WP.region rfl ?_)
 refine zo rfl (bn q1) (zo rfl (bn q2) (zo rfl (bZ (v:=.int .u64 (m:Int)) rfl vH) ?_))
 refine aB.LI (b:=m%256) rfl J.wf rfl rfl rfl rfl rfl rfl (by omega) (fun v h₁ b1 k1 f1 => ?_)
 have yO:j4 h₁ s' l':=q5.cX J.wf k1 (fun i _=>mo)
 refine aB.app (s:=s') (x:=v) rfl k1.wf rfl rfl rfl rfl rfl rfl rfl yO b1.view (by simp; omega) (fun v2 P9 b2 k2 f2 => ?_)
 refine za rfl ?_
 refine aB.nil (WP.ret ?_)
 refine ⟨aa,v2,rfl,?_,?_,fun i hi => ?_⟩
 ·rw [gJ (by omega),q4] at b2; exact b2
 ·refine ((J.trans k1 (fun i hi=>by simp at hi)).trans k2 (fun i hi => ?_)).mono (by omega) (fun i hi=>hi)
  rcases q7 i hi with I | I
  ·exact .inl I
  ·exact .inr I
 ·rcases f2 i hi with I | I
  ·exact q7 i I
  ·exact .inr (by have:=J.le; have:=k1.le; omega)
theorem Hw {h:H}{n:Nat}(I:n<18446744073709551616): convV Tryz.prog h 3 35 (.int .i64 (n:Int))=some (.int .u64 (n:Int),h):=by
 simp only [convV,bG,cx,wrap_u64 I]
theorem gP : ∀(k n:Nat),(digits k n).length≤k+1:=by
 intro k
 induction k with
 | zero=>intro n; simp [digits]
 | succ k I =>
  intro n
  unfold digits
  split
  ·simp
  ·simp only [bl]; have:=I (n/128); omega
theorem TW (J:Std told){h:H}{s x:V}{l m:List Nat}{k:Nat}(hw:mA h)(hs:j4 h s l)(U:View h x m)(hd:∀i∈rowIds x,i∉rowIds s)(hn:m.length<128^(k+1))(hk:k≤9)(hl:l.length+k+1+m.length≤140737488355328):
  Call ⟨Tryz.prog,told⟩ 136 [s,x] h fun v h'=>j4 h' v (l++digits k m.length++m)∧eN (2*k+3) (rowIds s) h h'∧∀i∈rowIds v,i∈rowIds s∨h.next≤i:=by
 refine Call.of_wp (J.free _ rfl) Tryz.func136 rfl rfl ?_
 refine WP.seq (WP.region rfl (aB.op rfl rfl rfl (fg rfl) (aB.nil ?_)))
 refine WP.seq (WP.region rfl ?_)
 refine zk 2 rfl (zo rfl (bf (v:=x) rfl rfl rfl U.len) (zo rfl (bZ (v:=.int .i64 (m.length:Int)) rfl (Hw (by omega))) ?_))
 refine aB.call rfl rfl rfl rfl rfl rfl rfl (Fw J (k:=k) hw hs hn hk (by omega)) (fun v h₁ ⟨b1,k1,f1⟩ => ?_)
 refine zm rfl ?_
 have yw:=gP k m.length
 refine aB.app (s:=v) (x:=x) rfl k1.wf rfl rfl rfl rfl rfl rfl rfl b1 (U.cX hw k1 hd) (by simp; omega) (fun v2 P9 b2 k2 f2 => ?_)
 refine aB.op rfl rfl rfl (fg rfl) (aB.nil (WP.ret ?_))
 refine ⟨aa,v2,rfl,b2,(k1.trans k2 f1).mono (by omega) (fun i hi=>hi),fun i hi => ?_⟩
 rcases f2 i hi with I | I
 ·exact f1 i I
 ·exact .inr (cy k1.le I)
def le : Nat→Nat→List Nat
 | 0,_=>[]
 | k+1,n=>(n%256)::le k (n/256)
theorem cR : ∀(k n:Nat),(le k n).length=k:=by
 intro k
 induction k with
 | zero=>intro n; rfl
 | succ k I=>intro n; simp [le,I]
theorem L2 : ∀(k n:Nat),∀b∈le k n,b<256:=by
 intro k
 induction k with
 | zero=>intro n b I; cases I
 | succ k J =>
  intro n b I
  rcases List.mem_cons.1 I with rfl | I
  ·omega
  ·exact J _ b I
noncomputable def lyX : Code:=unloop (unblk (cG (leftC (cG ((Tryz.f67.body).getD .skip)))))
theorem aaM {n i:Nat}(hi:i≤8): shiftV .shr .u64 (n:Int) ((8*i:Nat):Int)=some (.int .u64 ((n/256^i:Nat):Int)):=by
 simp only [shiftV,IntKind.bits,cQ]
 rw [show min (8*i) 64=8*i by omega,show decide (((8*i:Nat):Int)<0)=false by simp; omega,ay]
 congr 2
 rw [DO _ (Int.pow_nonneg (by omega))]
 rw [show (256:Nat)^i=2^(8*i) by rw [Nat.pow_mul]]
 push_cast
 rfl
theorem Qx {n size:Nat}(eX:size≤8): ∀(j i:Nat) (l:List Nat) (s:V) (h:H) (E:List (Nat×V)) (Q:Ex→List (Nat×V)→H→Prop),mA h→j4 h s l→i+j=size→l.length+j≤140737488355328 →
  look E 0=some s→look E 2=some (.int .u64 (n:Int))→look E 8=some (.int .i64 (size:Int))→look E 9=some (.int .i64 (i:Int)) →
  (∀E' h' s',look E' 0=some s'→j4 h' s' (l++le j (n/256^i))→eN (2*j) (rowIds s) h h'→(∀i∈rowIds s',i∈rowIds s∨h.next≤i)→Q (.exit 0) E' h') →
  WP ⟨Tryz.prog,told⟩ 22 (.loop lyX) E h Q:=by
 intro j
 induction j with
 | zero =>
  intro i l s h E Q hw hs hi _ h0 h2 h8 U hq
  refine WP.loop (WP.seq (WP.region rfl ?_))
  refine zo rfl (ah (v:=.int .i64 (i:Int)) (u:=.int .i64 (size:Int)) (r:=.bool false) U h8 (by simp only [binV,ikBeq,ag,intV]; congr 2; simp; omega)) ?_
  refine aB.nil (WP.seq (WP.cond (t:=false) rfl (WP.exit ?_)))
  exact hq _ h s h0 (by simpa [le] using hs) (eN.refl hw _) (fun i hi=>.inl hi)
 | succ j ih =>
  intro i l s h E Q hw hs hi hl h0 h2 h8 U hq
  refine WP.loop (WP.seq (WP.region rfl ?_))
  refine zo rfl (ah (v:=.int .i64 (i:Int)) (u:=.int .i64 (size:Int)) (r:=.bool true) U h8 (by simp only [binV,ikBeq,ag,intV]; congr 2; simp; omega)) ?_
  refine aB.nil (WP.seq (WP.cond (t:=true) rfl (WP.skip ?_)))
  refine WP.seq (WP.block (WP.seq (WP.region rfl ?_)))
  refine zo rfl (bn U) ?_
  refine aB.op rfl rfl rfl (fg rfl) (aB.nil (WP.region rfl ?_))
  refine zo rfl (bn h0) (zo rfl (bn h2) (zm rfl ?_))
  refine aB.op rfl rfl rfl (ah (v:=.int .i64 8) (u:=.int .i64 (i:Int)) (r:=.int .i64 ((8*i:Nat):Int)) rfl rfl (by
   simp only [binV,ikBeq,ag,intV]
   rw [show (8:Int)*(i:Int)=((8*i:Nat):Int) by push_cast; rfl,wrap_i64 (by omega)])) ?_
  refine zo rfl (ah (v:=.int .u64 (n:Int)) (u:=.int .i64 ((8*i:Nat):Int)) (r:=.int .u64 ((n/256^i:Nat):Int)) rfl rfl (by simp only [binV]; exact aaM (by omega))) ?_
  refine zo rfl (bZ (v:=.int .u64 ((n/256^i:Nat):Int)) rfl vH) ?_
  refine aB.LI (b:=n/256^i%256) rfl hw rfl rfl rfl rfl rfl rfl (by omega) (fun v h₁ b1 k1 f1 => ?_)
  have yO:j4 h₁ s l:=hs.cX hw k1 (fun i _=>mo)
  refine aB.app (s:=s) (x:=v) rfl k1.wf rfl rfl rfl rfl rfl rfl rfl yO b1.view (by simp; omega) (fun v2 I b2 k2 f2 => ?_)
  have J:eN 2 (rowIds s) h I:=(k1.mono (aI _) (fun i hi=>by simp at hi)).trans k2 (fun i hi=>.inl hi)
  refine aB.op rfl rfl rfl (fg rfl) (aB.nil (WP.region rfl ?_))
  refine zo rfl (ah (v:=.int .i64 (i:Int)) (u:=.int .i64 1) U rfl (by simp only [binV,ikBeq,ag]; exact y7 (by omega))) ?_
  refine aB.op rfl rfl rfl (bn rfl) (aB.nil ?_)
  refine ih (i+1) (l++[n/256^i%256]) v2 I _ Q J.wf b2 (by omega) (by simp; omega) rfl h2 h8 rfl (fun E' h' s' q1 q2 q3 q4 => ?_)
  refine hq E' h' s' q1 ?_ ?_ (fun i hi => ?_)
  ·have e1:n/256^(i+1)=n/256^i/256:=by rw [pO,Nat.div_div_eq_div_mul]
   rw [e1] at q2
   simpa [le] using q2
  ·exact (J.trans q3 (fun i hi=>(f2 i hi).imp_right (fun h=>cy k1.le h))).mono (by omega) (fun i hi=>hi)
  ·rcases q4 i hi with h3 | h3
   ·exact (f2 i h3).imp_right (fun h=>cy k1.le h)
   ·exact .inr (cy J.le h3)
theorem N7 (J:Std told){h:H}{s:V}{l:List Nat}{n size:Nat}(hw:mA h)(hs:j4 h s l)(I:size≤8)(U:l.length+size≤140737488355328):
  Call ⟨Tryz.prog,told⟩ 67 [s,.int .i64 (size:Int),.int .u64 (n:Int)] h fun v h'=>j4 h' v (l++le size n)∧eN (2*size) (rowIds s) h h'∧∀i∈rowIds v,i∈rowIds s∨h.next≤i:=by
 refine Call.of_wp (J.free _ rfl) Tryz.func67 rfl rfl ?_
 refine WP.seq (WP.region rfl (aB.op rfl rfl rfl (fg rfl) (aB.nil ?_)))
 refine WP.seq (WP.seq (WP.region rfl ?_))
 refine zm rfl ?_
 refine aB.op rfl rfl rfl (bn rfl) (aB.nil (WP.block ?_))
 refine Qx I size 0 l s h _ _ hw hs (by omega) U rfl rfl rfl rfl (fun E' h' s' q1 q2 q3 q4 => ?_)
 refine WP.seq (WP.region rfl ?_)
 refine zo rfl (bn q1) ?_
 refine aB.op rfl rfl rfl (fg rfl) (aB.nil (WP.ret ?_))
 exact ⟨aa,s',rfl,by simpa using q2,q3,q4⟩
theorem L3 : ∀(l:List Nat),(∀b∈l,b<256)→bytesIn (ofBytes l)=some l:=by
 intro l
 induction l with
 | nil=>intro _; rfl
 | cons b l I =>
  intro h
  have U:=h b br
  have:=I (fun c J=>h c (bp _ J))
  show bytesIn (.int .u8 (b:Int)::ofBytes l)=_
  simp only [bytesIn,this]
  rw [show (decide ((0:Int)≤(b:Int))&&decide ((b:Int)<256))=true by simp; omega]
  rfl
def B3 (s:Nat)(l:List Nat): Nat:=Nat.xor (crcL (Nat.xor s 4294967295) l) 4294967295
theorem EA {s:Nat}{l:List Nat}(hs:s<4294967296)(I:∀b∈l,b<256): B3 s l<4294967296:=oK (Eo l _ (oK hs (by omega)) I) (by omega)
theorem Ks (U:Std told){h:H}{x:V}{l:List Nat}{s:Nat}(J:View h x l)(hl:l.length≤4611686018427387904)(hs:s<4294967296):
  hO ⟨Tryz.prog,told⟩ 119 [.int .u32 (s:Int),x] h (.int .u32 (B3 s l:Nat)) h:=by
 refine hO.told U.more CM rfl ?_
 have I:=J
 obtain ⟨hb,I⟩:=I
 rcases I with ⟨rfl | ⟨ea,rfl⟩,rfl⟩ | ⟨id,off,cap,n,cs,st,rfl,hg,h1,h2,h3,h4⟩
 ·simp only [toldMore]
  rw [show (decide ((0:Int)≤(s:Int))&&decide ((s:Int)<4294967296))=true by simp; omega]
  rfl
 ·simp only [toldMore]
  rw [show (decide ((0:Int)≤(s:Int))&&decide ((s:Int)<4294967296))=true by simp; omega]
  rfl
 ·simp only [toldMore]
  rw [show (decide ((0:Int)≤(s:Int))&&decide ((s:Int)<4294967296)&&Nat.ble l.length 4611686018427387904)=true by simp [aQ]; omega,ag,(View.rdN J).2]
  simp only [L3 l hb]
  rfl
theorem YA (I:Std told){h:H}{x:V}{l:List Nat}(J:View h x l)(U:l.length≤4611686018427387904):
  Call ⟨Tryz.prog,told⟩ 84 [x] h fun v h'=>v=.int .u32 (B3 0 l:Nat)∧h'=h:=by
 refine Call.of_wp (I.free _ rfl) Tryz.func84 rfl rfl ?_
 refine WP.seq (WP.region rfl (aB.op rfl rfl rfl (fg rfl) (aB.nil ?_)))
 refine WP.seq (WP.region rfl ?_)
 refine zm rfl ?_
 refine aB.call (xn:=fun v h'=>v=.int .u32 (B3 0 l:Nat)∧h'=h) rfl rfl rfl rfl rfl rfl rfl ⟨_,_,Ks (s:=0) I J U (by omega),rfl,rfl⟩ (fun v h₁ ⟨e1,e2⟩ => ?_)
 subst e1; subst e2
 exact aB.op rfl rfl rfl (fg rfl) (aB.nil (WP.ret ⟨aa,_,rfl,rfl,rfl⟩))
def tq (aK:Nat)(l:List Nat): Nat:=B3 (B3 0 (le 8 aK)) l
theorem Hx {aK:Nat}{l:List Nat}(I:∀b∈l,b<256): tq aK l<4294967296:=EA (EA (by omega) (L2 8 aK)) I
theorem N8 (J:Std told){h:H}{x:V}{l:List Nat}{aK:Nat}(hw:mA h)(hx:View h x l)(hl:l.length≤4611686018427387904):
  Call ⟨Tryz.prog,told⟩ 100 [.int .u64 (aK:Int),x] h fun v h'=>v=.int .u32 (tq aK l:Nat)∧eN 16 [] h h':=by
 refine Call.of_wp (J.free _ rfl) Tryz.func100 rfl rfl ?_
 refine WP.seq (WP.region rfl (aB.op rfl rfl rfl (fg rfl) (aB.nil ?_)))
 refine WP.seq (WP.region rfl ?_)
 refine zm rfl ?_
 refine aB.call rfl rfl rfl rfl rfl rfl rfl (N7 (size:=8) (s:=.bz) (l:=[]) (n:=aK) J hw ⟨by simp,.inl ⟨rfl,rfl⟩⟩ (by omega) (by simp)) (fun v h₁ ⟨U,k1,f1⟩ => ?_)
 rw [cW] at U
 refine aB.call rfl rfl rfl rfl rfl rfl rfl (YA J U.view (by rw [cR]; omega)) (fun v2 I ⟨e1,e2⟩ => ?_)
 subst e1; subst e2
 refine zm rfl ?_
 refine aB.call (xn:=fun v h'=>v=.int .u32 (tq aK l:Nat)∧h'=I) rfl rfl rfl rfl rfl rfl rfl
  ⟨_,_,Ks (s:=B3 0 (le 8 aK)) J (hx.cX hw k1 (fun i _ hi=>by simp [rowIds] at hi)) hl (EA (by omega) (L2 8 aK)),rfl,rfl⟩ (fun v3 TX ⟨e3,e4⟩ => ?_)
 subst e3; subst e4
 exact aB.op rfl rfl rfl (fg rfl) (aB.nil (WP.ret ⟨aa,_,rfl,rfl,k1.mono (aI _) (fun i hi=>by simp [rowIds] at hi)⟩))
end
def N9 : List Nat:=[11,119,50,101,75,76]
structure W (told:dM): Prop where
 free:∀f,inL N9 f=false→told f=none
 more:told 119=some toldMore
 sorted:told 50=some (toldSorted A8)
theorem W.SN {told:dM}(I:W told): Std told:=by
 refine ⟨fun f J=>I.free f ?_,I.more⟩
 have:∀f∈Hv,inL N9 f=false:=by decide
 exact this f (by rw [Nf] at J; simpa using J)
def lP (v:V): Option (List Nat)→ax
 | none=>.pu (v=.bz)
 | some b=>.an (.pu (v≠.bz)) (.ct v b)
theorem aH.lP (v:V)(o:Option (List Nat)): aH (Am.lP v o):=by
 cases o with
 | none=>exact aH.pu _
 | some b=>exact aH.an (aH.pu _) (aH.ct _ _)
def each {α:Type}(f:V→α→ax): List V→List α→ax
 | [],[]=>.pu True
 | v::l,x::m=>.an (f v x) (each f l m)
 | _,_=>.pu False
theorem aH.each {α:Type}{f:V→α→ax}(I:∀v x,aH (f v x)): ∀(l:List V) (m:List α),aH (Am.each f l m):=by
 intro l
 induction l with
 | nil=>intro m; cases m <;> exact aH.pu _
 | cons v l J=>intro m; cases m with
  | nil=>exact aH.pu _
  | cons x m=>exact aH.an (I _ _) (J m)
section
variable {α:Type} {f:V→α→ax} {a b:PM}
theorem uJ : ∀ {l:List V} {m:List α},(each f l m).p a b→l.length=m.length:=by
 intro l
 induction l with
 | nil=>intro m h; cases m with
  | nil=>rfl
  | cons x m=>exact h.elim
 | cons v l I=>intro m h; cases m with
  | nil=>exact h.elim
  | cons x m=>simp only [bl,I h.2]
theorem Hy : ∀ {l:List V} {m:List α} {i:Nat} {v:V} {x:α},(each f l m).p a b→l[i]?=some v→m[i]?=some x→(f v x).p a b:=by
 intro l
 induction l with
 | nil=>intro m i v x h I; simp at I
 | cons u l U=>intro m i v x h I J; cases m with
  | nil=>exact h.elim
  | cons y m =>
   cases i with
   | zero=>simp at I J; subst I; subst J; exact h.1
   | succ i=>simp at I J; exact U h.2 I J
theorem B4 : ∀ {l:List V} {m:List α} {i:Nat} {v:V} {x:α},(each f l m).p a b→(f v x).p a b→(each f (l.set i v) (m.set i x)).p a b:=by
 intro l
 induction l with
 | nil=>intro m i v x h I; cases m with
  | nil=>exact h
  | cons x m=>exact h.elim
 | cons u l J=>intro m i v x h I; cases m with
  | nil=>exact h.elim
  | cons y m =>
   cases i with
   | zero=>exact ⟨I,h.2⟩
   | succ i=>exact ⟨h.1,J h.2 I⟩
end
abbrev Wr := Nat×List Nat
structure Dk where
 room:Nat
 aq:List (Option (List Nat))
 waiting:List Wr
 now:List (Int×List Nat)
 log:List Nat
 aJ:Nat
 mark:List Nat
 aD:Int
 dead:Bool
 dh:Option Wr
 tail:List Nat
def vl (room:Nat)(pg wt nw lg:V)(I:Nat)(mk:V)(J ops:Int)(dead:Bool)(U tl:V): List V :=
 [.int .i64 (room:Int),pg,wt,nw,lg,.int .i64 (I:Int),mk,.int .i64 J,.int .i64 ops,.bool dead,U,tl]
def uK : List V→List Wr→ax
 | [],[]=>.pu True
 | p::v::l,x::m=>.an (.an (.pu (p=.int .i64 (x.1:Int)∧v≠.bz)) (.ct v x.2)) (uK l m)
 | _,_=>.pu False
theorem aH.wr : ∀(m:List Wr) (l:List V),aH (uK l m):=by
 intro m
 induction m with
 | nil=>intro l; cases l with
  | nil=>exact aH.pu _
  | cons v l=>cases l <;> exact aH.pu _
 | cons x m I=>intro l; cases l with
  | nil=>exact aH.pu _
  | cons v l=>cases l with
   | nil=>exact aH.pu _
   | cons u l=>exact aH.an (aH.an (aH.pu _) (aH.ct _ _)) (I l)
theorem TY {a b:PM}: ∀ {m:List Wr} {l:List V} {x:Wr} {v:V},(uK l m).p a b→v≠.bz→(ax.ct v x.2).p a b→(uK (l++[.int .i64 (x.1:Int),v]) (m++[x])).p a b:=by
 intro m
 induction m with
 | nil=>intro l x v h I J; cases l with
  | nil=>exact ⟨⟨⟨rfl,I⟩,J⟩,aa⟩
  | cons u l=>cases l <;> exact h.elim
 | cons y m U=>intro l x v h I J; cases l with
  | nil=>exact h.elim
  | cons u l=>cases l with
   | nil=>exact h.elim
   | cons w l=>exact ⟨h.1,U h.2 I J⟩
theorem A9 {a b:PM}: ∀ {m:List Wr} {l:List V},(uK l m).p a b→l.length=m.length*2:=by
 intro m
 induction m with
 | nil=>intro l h; cases l with
  | nil=>rfl
  | cons u l=>cases l <;> exact h.elim
 | cons y m I=>intro l h; cases l with
  | nil=>exact h.elim
  | cons u l=>cases l with
   | nil=>exact h.elim
   | cons w l=>have:=I h.2; simp only [bl]; omega
def oP (v:V)(m:List (Option (List Nat))): ax:=xs fun id:Nat=>xs fun cs:List V=>star [.pu (v=.sl id 0 m.length (.exact m.length)),pt id (.cells m.length cs false),each lP cs m]
def A_ (v:V)(m:List Wr): ax:=xs fun cs:List V=>star [.arr 2 v cs,uK cs m]
def Ba (v:V): Option Wr→ax
 | none=>.pu (v=.cK)
 | some x=>xs fun id:Nat=>xs fun u:V=>star [.pu (v=.ptr id 0),pt id (.cells 2 [.int .i64 (x.1:Int),u] false),.ct u x.2]
def aG (p:Nat)(δ:Dk): ax:=xs fun pg:V=>xs fun wt:V=>xs fun nw:V=>xs fun lg:V=>xs fun mk:V=>xs fun I:V=>xs fun J:V=>xs fun ops:Int =>
 star [pt p (.cells 12 (vl δ.room pg wt nw lg δ.aJ mk δ.aD ops δ.dead I J) false),oP pg δ.aq,A_ wt δ.waiting,jg (fun v b=>.ct v b) nw δ.now,bK lg δ.log,Bz mk δ.mark,Ba I δ.dh,Bz J δ.tail]
section
variable {h:H} {S:List ax} {p:Nat} {δ:Dk}
theorem bt : Sat h (aG p δ::S)↔∃pg wt nw lg mk I J ops,Sat h (pt p (.cells 12 (vl δ.room pg wt nw lg δ.aJ mk δ.aD ops δ.dead I J) false)::oP pg δ.aq::A_ wt δ.waiting::jg (fun v b=>.ct v b) nw δ.now::bK lg δ.log::Bz mk δ.mark::Ba I δ.dh::Bz J δ.tail::S):=by
 simp only [aG,gu,en,fF,cW]
theorem gv {v:V}{m:List (Option (List Nat))}: Sat h (oP v m::S)↔∃id cs,v=.sl id 0 m.length (.exact m.length)∧Sat h (pt id (.cells m.length cs false)::each lP cs m::S):=by
 simp only [oP,gu,en,fF,cW,eR]
theorem mM {v:V}{m:List Wr}: Sat h (A_ v m::S)↔∃cs,Sat h (.arr 2 v cs::uK cs m::S):=by
 simp only [A_,gu,en,fF,cW]
end
section
variable {told:dM} {h:H} {S:List ax} {X:ax} {v:V} {l:List Nat}
def zV (s:Nat)(l:List Nat): Nat:=Nat.xor (crcL (Nat.xor s 4294967295) l) 4294967295
theorem B5 {s:Nat}{l:List Nat}(hs:s<4294967296)(I:∀b∈l,b<256): zV s l<4294967296:=oK (Eo _ _ (oK hs (by omega)) I) (by omega)
theorem TZ (hT:W told){k s:Nat}(sa:Sat h S)(hk:getA S k=some X)(hX:cU X (cY v l))(hs:s<4294967296)(hl:l.length≤4611686018427387904):
  Call ⟨Tryz.prog,told⟩ 119 [.int .u32 (s:Int),v] h fun r h'=>r=.int .u32 (zV s l:Nat)∧h'=h:=by
 have J:=sa.aL hk hX
 refine ⟨_,_,hO.told hT.more CM rfl ?_,rfl,rfl⟩
 have I:ux (s:Int) l=.int .u32 (zV s l:Nat):=by simp only [ux,zV,cQ]
 have U:=J
 rcases U.2 with ⟨rfl | ⟨ea,rfl⟩,rfl⟩ | ⟨id,off,cap,n,cs,st,rfl,_⟩
 ·simp only [toldMore]
  rw [show (decide ((0:Int)≤(s:Int))&&decide ((s:Int)<4294967296))=true by simp; omega,ag,I]
 ·simp only [toldMore]
  rw [show (decide ((0:Int)≤(s:Int))&&decide ((s:Int)<4294967296))=true by simp; omega,ag,I]
 ·simp only [toldMore]
  rw [show (decide ((0:Int)≤(s:Int))&&decide ((s:Int)<4294967296)&&Nat.ble l.length 4611686018427387904)=true by rw [aQ.2 hl]; simp; omega,ag,J.rdN.2]
  simp only
  have:∀l:List Nat,(∀b∈l,b<256)→bytesIn (ofBytes l)=some l:=by
   intro l
   induction l with
   | nil=>intro _; rfl
   | cons b l ih =>
    intro hb
    have h1:=ih (fun x hx=>hb x (bp _ hx))
    simp only [ofBytes,bI] at h1 ⊢
    simp only [bytesIn,h1]
    have Bp:=hb b br
    rw [show (decide (0≤(b:Int))&&decide ((b:Int)<256))=true by simp; omega,ag]
    rfl
  rw [this l J.1]
  simp only [I]
end
section
variable {told:dM} {h:H} {S:List ax} {X:ax} {p:Nat} {δ:Dk}
theorem gQ (J:W told){x:V}{l:List Nat}(s:Sat h (X::S))(I:cU X (cY x l))(U:l.length<1073741824):
  Call ⟨Tryz.prog,told⟩ 65 [x] h fun v h'=>Sat h' (bK v l::X::S):=by
 refine Call.of_wp (J.free _ rfl) Tryz.func65 rfl rfl (zK 7 rfl (zo rfl (bf rfl rfl rfl (bj aS (s.aL (k:=0) rfl I))) (aB.any rfl rfl rfl (OpR.wI rfl s rfl rfl rfl rfl U) ?_)))
 intro v h s
 refine zm rfl (aB.any rfl rfl rfl (OpR.oX rfl s I rfl rfl rfl rfl (by simp; omega)) ?_)
 intro v h s
 exact zk 2 rfl (WP.ret ⟨aa,_,rfl,s⟩)
theorem xA (J:W told){x:V}{l:List Nat}(s:Sat h (X::S))(I:cU X (cY x l))(U:l.length<1073741824):
  Call ⟨Tryz.prog,told⟩ 93 [x] h fun v h'=>Sat h' (bK v l::X::S):=by
 refine Call.of_wp (J.free _ rfl) Tryz.func93 rfl rfl (zK 7 rfl (zo rfl (bf rfl rfl rfl (bj aS (s.aL (k:=0) rfl I))) (aB.any rfl rfl rfl (OpR.wI rfl s rfl rfl rfl rfl U) ?_)))
 intro v h s
 refine zm rfl (aB.any rfl rfl rfl (OpR.oX rfl s I rfl rfl rfl rfl (by simp; omega)) ?_)
 intro v h s
 exact zk 2 rfl (WP.ret ⟨aa,_,rfl,s⟩)
theorem kr (J:W told){x:V}{l:List Nat}(s:Sat h (X::S))(I:cU X (cY x l))(U:l.length<1073741824):
  Call ⟨Tryz.prog,told⟩ 44 [x] h fun v h'=>Sat h' (bK v l::X::S):=by
 refine Call.of_wp (J.free _ rfl) Tryz.func44 rfl rfl (zK 7 rfl (zo rfl (bf rfl rfl rfl (bj aS (s.aL (k:=0) rfl I))) (aB.any rfl rfl rfl (OpR.wI rfl s rfl rfl rfl rfl U) ?_)))
 intro v h s
 refine zm rfl (aB.any rfl rfl rfl (OpR.oX rfl s I rfl rfl rfl rfl (by simp; omega)) ?_)
 intro v h s
 exact zk 2 rfl (WP.ret ⟨aa,_,rfl,s⟩)
theorem B6 (I:W told)(s:Sat h (aG p δ::S)): Call ⟨Tryz.prog,told⟩ 55 [.ptr p 0] h fun v h'=>v=.int .i64 (δ.aq.length:Int)∧h'=h:=by
 obtain ⟨pg,wt,nw,lg,mk,J,U,ops,s⟩:=bt.1 s
 obtain ⟨id,cs,rfl,s'⟩:=gv.1 (s.ae [1])
 exact Call.of_wp (I.free _ rfl) Tryz.func55 rfl rfl (zK 8 rfl (zf rfl (m_ _ _) (zl rfl (s.ld (k:=0) rfl rZ rfl) (zo rfl (bf rfl rfl rfl (p_ rfl uI)) (zk 2 rfl (WP.ret ⟨aa,_,rfl,rfl,rfl⟩))))))
theorem N_ (U:W told){n:Int}(s:Sat h (aG p δ::S)): Call ⟨Tryz.prog,told⟩ 128 [.ptr p 0,.int .i64 n] h fun v h'=>h'=h∧((0≤n∧n<δ.aq.length∧v=.bool true)∨(¬(0≤n∧n<δ.aq.length)∧v=.bool false)):=by
 obtain ⟨pg,wt,nw,lg,mk,tn,tl,ops,s⟩:=bt.1 s
 obtain ⟨id,cs,rfl,s'⟩:=gv.1 (s.ae [1])
 refine Call.of_wp (U.free _ rfl) Tryz.func128 rfl rfl (zK 7 rfl ?_)
 refine zd rfl (ah rfl rfl nC) ?_ ?_
 ·intro J
  have J:0≤n:=by simpa using J
  refine zk 4 rfl (zf rfl (m_ _ _) (zl rfl (s.ld (k:=0) rfl rZ rfl) (zo rfl (bf rfl rfl rfl (p_ rfl uI)) ?_)))
  refine zd rfl (ah rfl rfl bB) ?_ ?_
  ·intro I
   have I:n<δ.aq.length:=by simpa using I
   exact zk 3 rfl (WP.ret ⟨aa,_,rfl,rfl,.inl ⟨J,I,rfl⟩⟩)
  ·intro I
   have I:¬ n<δ.aq.length:=by simpa using I
   exact zk 3 rfl (WP.ret ⟨aa,_,rfl,rfl,.inr ⟨fun h=>I h.2,rfl⟩⟩)
 ·intro J
  have J:¬ 0≤n:=by simpa using J
  exact zk 11 rfl (WP.ret ⟨aa,_,rfl,rfl,.inr ⟨fun h=>J h.1,rfl⟩⟩)
def Dk.xB (δ:Dk): Nat:=δ.aJ
def Dk.c9 (δ:Dk): Dk:={ δ with aD:=if 0<δ.aD then δ.aD-1 else δ.aD }
def Dk.die (δ:Dk): Dk:={ δ with dead:=true }
theorem mN (hT:W told)(s:Sat h (aG p δ::S))(hf:δ.aD<4294967296):
  Call ⟨Tryz.prog,told⟩ 118 [.ptr p 0] h fun v h'=>(δ.aD=0∧v=.bool false∧Sat h' (aG p δ.die::S))∨(δ.aD≠0∧v=.bool true∧Sat h' (aG p δ.c9::S)):=by
 obtain ⟨pg,wt,nw,lg,mk,U,tl,ops,s⟩:=bt.1 s
 refine Call.of_wp (hT.free _ rfl) Tryz.func118 rfl rfl (zK 9 rfl (zf rfl (wG _ _) (zl rfl (s.ld (k:=0) rfl dA rfl) ?_)))
 refine zd rfl (ah rfl rfl cB) ?_ ?_
 ·intro J
  refine zk 6 rfl (zf rfl (jt _ _) ?_)
  refine zS rfl (by exact s.ee (k:=0) rfl yq rfl (by decide) rfl rfl) (fun h s => ?_)
  refine zk 5 rfl (WP.ret ⟨aa,_,rfl,?_⟩)
  have J:δ.aD=0:=by simpa using J
  exact .inl ⟨J,rfl,bt.2 ⟨pg,wt,nw,lg,mk,U,tl,ops,s⟩⟩
 ·intro J
  have J:δ.aD≠0:=by simpa using J
  refine zk 8 rfl (zf rfl (wG _ _) (zl rfl (s.ld (k:=0) rfl dA rfl) ?_))
  refine zd rfl (ah rfl rfl ep) ?_ ?_
  ·intro I
   have I:0<δ.aD:=by simpa using I
   refine zk 5 rfl (zf rfl (wG _ _) (zl rfl (s.ld (k:=0) rfl dA rfl) (zb rfl (by exact lV (aY (by omega) (by omega))) ?_)))
   refine zn rfl (zf rfl (wG _ _) ?_)
   refine zS rfl (by exact s.ee (k:=0) rfl jK rfl (by decide) rfl rfl) (fun h s => ?_)
   refine zk 5 rfl (zf rfl (A5 _ _) (zl rfl (s.ld (k:=0) rfl dA rfl) (zb rfl (by rfl) ?_)))
   refine zn rfl (zf rfl (A5 _ _) ?_)
   refine zS rfl (by exact s.ee (k:=0) rfl jK rfl (by decide) rfl rfl) (fun h s => ?_)
   exact zk 5 rfl (WP.ret ⟨aa,_,rfl,.inr ⟨J,rfl,bt.2 ⟨pg,wt,nw,lg,mk,U,tl,_,by simp only [Dk.c9,aj I]; exact s⟩⟩⟩)
  ·intro I
   have I:¬ 0<δ.aD:=by simpa using I
   refine zk 7 rfl (zf rfl (A5 _ _) (zl rfl (s.ld (k:=0) rfl dA rfl) (zb rfl (by rfl) ?_)))
   refine zn rfl (zf rfl (A5 _ _) ?_)
   refine zS rfl (by exact s.ee (k:=0) rfl jK rfl (by decide) rfl rfl) (fun h s => ?_)
   exact zk 5 rfl (WP.ret ⟨aa,_,rfl,.inr ⟨J,rfl,bt.2 ⟨pg,wt,nw,lg,mk,U,tl,_,by simp only [Dk.c9,af I]; exact s⟩⟩⟩)
def Dk.at (δ:Dk)(n:Int): List Nat:=match lookL n δ.now with
 | some b=>b
 | none=>match δ.aq[n.toNat]? with
  | some (some b)=>b
  | _=>List.replicate 512 0
theorem L4 {v:V}{m:List (Option (List Nat))}{i:Nat}(s:Sat h (oP v m::S))(hi:i<m.length):
  ∃id u,v=.sl id 0 m.length (.exact m.length)∧(∀(P:Program) (t:TypeId),b_ P t=some false→loadV P h t (.ptr id i)=some u)∧Sat h (lP u m[i]::oP v m::S):=by
 obtain ⟨id,cs,rfl,s1⟩:=gv.1 s
 obtain ⟨a,b,q1,q2,I⟩:=s1.at (k:=1) rfl
 have hl:=uJ I
 have hu:cs[i]?=some (cs[i]'(by omega)):=bg _
 have s2:Sat h (each lP cs m::pt id (.cells m.length cs false)::S):=s1.ae [1]
 have J:=s2.dup (aH.each aH.lP cs m)
 have U:Sat h (lP (cs[i]'(by omega)) m[i]::each lP cs m::pt id (.cells m.length cs false)::S):=J.fY fun a b h=>Hy h hu (bg hi)
 refine ⟨id,cs[i]'(by omega),rfl,fun P t ht=>Kh ht (s1.row (k:=0) rfl) (by rw [fV,hu]),?_⟩
 have s5:Sat h (pt id (.cells m.length cs false)::each lP cs m::lP (cs[i]'(by omega)) m[i]::S):=U.ae [2,1]
 exact (gv.2 ⟨id,cs,rfl,s5⟩:Sat h (oP _ m::lP (cs[i]'(by omega)) m[i]::S)).ae [1]
theorem Qy (hT:W told){n:Int}(s:Sat h (aG p δ::S))(hl:(δ.at n).length=512): Call ⟨Tryz.prog,told⟩ 96 [.ptr p 0,.int .i64 n] h fun v h' =>
  (δ.dead=true∧v=.bE [.bz,.int .i64 9]∧Sat h' (aG p δ::S)) ∨
  (δ.dead=false∧¬(0≤n∧n<δ.aq.length)∧v=.bE [.bz,.int .i64 1]∧Sat h' (aG p δ::S)) ∨
  (δ.dead=false∧0≤n∧n<δ.aq.length∧∃b,v=.bE [b,.int .i64 0]∧Sat h' (bK b (δ.at n)::aG p δ::S)):=by
 have s0:=s
 obtain ⟨pg,wt,nw,lg,mk,tn,tl,ops,s⟩:=bt.1 s
 refine Call.of_wp (hT.free _ rfl) Tryz.func96 rfl rfl (zK 6 rfl (WP.block (zK 4 rfl (zf rfl (jt _ _) (zl rfl (s.ld (k:=0) rfl ke rfl) (zk 2 rfl ?_))))))
 refine WP.split rfl ?_ ?_
 ·intro hd
  exact zK 5 rfl (WP.ret ⟨aa,_,rfl,.inl ⟨hd,rfl,s0⟩⟩)
 ·intro hd
  refine zK 4 rfl (zc rfl (N_ hT s0) ?_)
  rintro v h' ⟨rfl,(⟨J,U,rfl⟩ | ⟨hn,rfl⟩)⟩
  ·skip
   refine zo rfl (dS rfl rfl) (za rfl (zv (zj rfl (WP.skip (zg rfl (zk 2 rfl (zf rfl (A4 _ _) (zl rfl (by exact s.ld (k:=0) rfl mB rfl) ?_))))))))
   refine zm rfl ?_
   have s1:Sat h' (jg (fun v b=>.ct v b) nw δ.now::pt p (.cells 12 (vl δ.room pg wt nw lg δ.aJ mk δ.aD ops δ.dead tn tl) false)::oP pg δ.aq::A_ wt δ.waiting::bK lg δ.log::Bz mk δ.mark::Ba tn δ.dh::Bz tl δ.tail::S):=s.ae [3]
   rcases mL (n:=n) (fun _ _=>aH.ct _ _) s1 lN bG zC with ⟨g1,g2,_⟩ | ⟨u,b,g1,g2,_,s2⟩
   ·refine aB.op rfl rfl rfl (gT rfl rfl g2) ?_
    refine zk 10 rfl (zo rfl (dS rfl rfl) (zk 5 rfl (zf rfl (m_ _ _) (zl rfl (s.ld (k:=0) rfl rZ rfl) (zm rfl ?_)))))
    have hi:n.toNat<δ.aq.length:=by omega
    obtain ⟨id,u,rfl,g3,s3⟩:=L4 (s.ae [1]) hi
    refine zo rfl (ej (r:=.ptr id n.toNat) rfl rfl (by rw [Sw,show (decide (0≤n)&&decide (n<((δ.aq.length:Nat):Int)))=true by simp; omega,ag]; simp)) ?_
    refine zl rfl (g3 _ _ bO) (zk 6 rfl ?_)
    have I:δ.at n=match δ.aq[n.toNat] with | some b=>b | none=>List.replicate 512 0:=by
     simp only [Dk.at,g1,bg hi]
     cases δ.aq[n.toNat] <;> rfl
    cases hp:δ.aq[n.toNat] with
    | none =>
     rw [hp] at s3 I
     have I:δ.at n=List.replicate 512 0:=I
     obtain ⟨rfl,_⟩:=eR.1 s3
     refine zt rfl ((by exact ah rfl rfl (by simp only [binV,eqV,aS]; rfl))) (rfl) ?_
     refine zk 4 rfl (aB.any rfl rfl rfl (OpR.Gn rfl s0 rfl rfl rfl rfl (by decide)) ?_)
     intro v h s
     exact zk 3 rfl (WP.ret ⟨aa,_,rfl,.inr (.inr ⟨hd,J,U,v,rfl,by rw [I]; exact s⟩)⟩)
    | some b =>
     rw [hp] at s3 I
     have I:δ.at n=b:=I
     have s4:Sat h' (ax.an (.pu (u≠.bz)) (.ct u b)::oP _ δ.aq::_):=s3
     have hu:u≠.bz:=by
      obtain ⟨a,b,q1,q2,q3⟩:=s4.at (k:=0) rfl
      exact q3.1
     have s5:Sat h' (.ct u b::aG p δ::S):=by
      have s6:=s4.fY (B:=.ct u b) fun a b h=>h.2
      exact (bt.2 ⟨_,wt,nw,lg,mk,tn,tl,ops,s6.ae [2,1,1,1,1,1,1,1]⟩:Sat h' (aG p δ::.ct u b::S)).ae [1]
     have Fx:∃a b c d,u=.sl a b c d:=by
      rcases (s5.aL (k:=0) rfl (cJ _ _)).2 with ⟨_,e⟩ | ⟨a,b,c,_,_,_,e,_⟩
      ·rw [I,e] at hl; simp at hl
      ·exact ⟨_,_,_,_,e⟩
     obtain ⟨a,b',c,d,rfl⟩:=Fx
     refine zh rfl ((by exact ah rfl rfl (by simp only [binV,eqV,aS]; rfl))) (rfl) ?_
     refine zk 6 rfl (zc rfl (gQ hT s5 (cJ _ _) (by rw [←I,hl]; decide)) ?_)
     intro v h s
     exact zk 3 rfl (WP.ret ⟨aa,_,rfl,.inr (.inr ⟨hd,J,U,v,rfl,by rw [I]; exact s.del 1⟩)⟩)
   ·skip
    refine zo rfl (gT rfl rfl g2) (zk 10 rfl (zo rfl (dS rfl rfl) (zk 7 rfl ?_)))
    have I:δ.at n=b:=by simp only [Dk.at,g1]
    have Fx:∃a b c d,u=.sl a b c d:=by
     rcases (s2.aL (k:=0) rfl (cJ _ _)).2 with ⟨_,e⟩ | ⟨a,b,c,_,_,_,e,_⟩
     ·rw [I,e] at hl; simp at hl
     ·exact ⟨_,_,_,_,e⟩
    obtain ⟨a,b',c,d,rfl⟩:=Fx
    refine zh rfl ((by exact ah rfl rfl (by simp only [binV,eqV,aS]; rfl))) (rfl) ?_
    refine zk 6 rfl (zc rfl (gQ hT s2 (cJ _ _) (by rw [←I,hl]; decide)) ?_)
    intro v h s
    refine zk 3 rfl (WP.ret ⟨aa,_,rfl,?_⟩)
    have s:=bt.2 ⟨pg,wt,nw,lg,mk,tn,tl,ops,s.ae [3,3,3,2,2,2,2,2]⟩
    exact .inr (.inr ⟨hd,J,U,v,rfl,by rw [I]; exact (s.del 2).ae [1,0]⟩)
  ·skip
   exact zo rfl (dS rfl rfl) (zk 8 rfl (WP.ret ⟨aa,_,rfl,.inr (.inl ⟨hd,hn,rfl,s0⟩)⟩))
theorem BB (I:W told)(s:Sat h (aG p δ::S)): Call ⟨Tryz.prog,told⟩ 105 [.ptr p 0] h fun v h'=>v=.int .i64 (δ.xB:Int)∧h'=h:=by
 obtain ⟨pg,wt,nw,lg,mk,J,U,ops,s⟩:=bt.1 s
 exact Call.of_wp (I.free _ rfl) Tryz.func105 rfl rfl (zK 8 rfl (zf rfl (ob _ _) (zl rfl (s.ld (k:=0) rfl dA rfl) (zk 2 rfl (WP.ret ⟨aa,_,rfl,rfl,rfl⟩)))))
theorem xC (I:W told)(s:Sat h (aG p δ::S)): Call ⟨Tryz.prog,told⟩ 35 [.ptr p 0] h fun v h'=>v=.bool δ.dead∧h'=h:=by
 obtain ⟨pg,wt,nw,lg,mk,J,U,ops,s⟩:=bt.1 s
 exact Call.of_wp (I.free _ rfl) Tryz.func35 rfl rfl (zK 8 rfl (zf rfl (jt _ _) (zl rfl (s.ld (k:=0) rfl ke rfl) (zk 2 rfl (WP.ret ⟨aa,_,rfl,rfl,rfl⟩)))))
def Dk.Qz (δ:Dk)(n:Int): Dk:={ δ with aD:=max (-1) n }
theorem Hz (I:W told){n:Int}(s:Sat h (aG p δ::S)): Call ⟨Tryz.prog,told⟩ 33 [.ptr p 0,.int .i64 n] h fun v h'=>v=.bE []∧Sat h' (aG p (δ.Qz n)::S):=by
 obtain ⟨pg,wt,nw,lg,mk,J,U,ops,s⟩:=bt.1 s
 refine Call.of_wp (I.free _ rfl) Tryz.func33 rfl rfl (zK 3 rfl (zo rfl (LZ rfl rfl aaE) (zn rfl (zf rfl (wG _ _) ?_))))
 refine zS rfl (by exact s.ee (k:=0) rfl jK rfl (by decide) rfl rfl) (fun h s => ?_)
 exact zv (⟨aa,_,rfl,rfl,bt.2 ⟨pg,wt,nw,lg,mk,J,U,ops,s⟩⟩)
theorem Fy (U:W told)(s:Sat h (aG p δ::S))(hf:δ.aD<4294967296): Call ⟨Tryz.prog,told⟩ 106 [.ptr p 0] h fun v h' =>
  (δ.dead=true∧v=.int .i64 9∧Sat h' (aG p δ::S))∨(δ.dead=false∧δ.aD=0∧v=.int .i64 9∧Sat h' (aG p δ.die::S)) ∨
  (δ.dead=false∧δ.aD≠0∧v=.int .i64 0∧Sat h' (aG p { δ.c9 with aJ:=δ.log.length }::S)):=by
 have s0:=s
 obtain ⟨pg,wt,nw,lg,mk,tn,tl,ops,s⟩:=bt.1 s
 refine Call.of_wp (U.free _ rfl) Tryz.func106 rfl rfl (zK 9 rfl (zf rfl (jt _ _) ?_))
 refine zd rfl (aW rfl (s.ld (k:=0) rfl ke rfl)) ?_ ?_
 ·intro I
  exact zk 11 rfl (WP.ret ⟨aa,_,rfl,.inl ⟨I,rfl,s0⟩⟩)
 ·intro I
  refine zk 2 rfl (zc rfl (mN U s0 hf) ?_)
  rintro v h (⟨J,rfl,s⟩ | ⟨J,rfl,s⟩)
  ·skip
   exact zo rfl (dS rfl rfl) (zk 7 rfl (WP.ret ⟨aa,_,rfl,.inr (.inl ⟨I,J,rfl,s⟩)⟩))
  ·skip
   obtain ⟨pg,wt,nw,lg,mk,tn,tl,ops,s⟩:=bt.1 s
   dsimp only [Dk.c9] at s
   refine zo rfl (dS rfl rfl) (zk 9 rfl (zf rfl (js _ _) (zl rfl (s.ld (k:=0) rfl bO rfl) (zo rfl (bf rfl rfl rfl (bj aS (s.aL (k:=4) rfl (bM _ _)))) (zn rfl (zf rfl (ob _ _) ?_))))))
   refine zS rfl (by exact s.ee (k:=0) rfl jK rfl (by decide) rfl rfl) (fun h s => ?_)
   exact zk 5 rfl (WP.ret ⟨aa,_,rfl,.inr (.inr ⟨I,J,rfl,bt.2 ⟨pg,wt,nw,lg,mk,tn,tl,ops,s⟩⟩)⟩)
theorem L5 (hT:W told){x:V}{b:List Nat}(s:Sat h (aG p δ::X::S))(hX:cU X (cY x b))(hb:b.length<1073741824)(hf:δ.aD<4294967296)(hl:δ.log.length≤4294967296)(hr:δ.room≤4294967296):
  Call ⟨Tryz.prog,told⟩ 89 [.ptr p 0,x] h fun v h' =>
  (δ.dead=true∧v=.int .i64 9∧Sat h' (aG p δ::X::S))∨(δ.dead=false∧δ.room<δ.log.length+b.length∧v=.int .i64 7∧Sat h' (aG p δ::X::S)) ∨
  (δ.dead=false∧δ.log.length+b.length≤δ.room∧δ.aD=0∧v=.int .i64 9∧Sat h' (aG p { δ.die with tail:=b }::X::S)) ∨
  (δ.dead=false∧δ.log.length+b.length≤δ.room∧δ.aD≠0∧v=.int .i64 0∧Sat h' (aG p { δ.c9 with log:=δ.log++b }::X::S)):=by
 have s0:=s
 obtain ⟨pg,wt,nw,lg,mk,tn,tl,ops,s⟩:=bt.1 s
 refine Call.of_wp (hT.free _ rfl) Tryz.func89 rfl rfl (zK 5 rfl (WP.block (zK 4 rfl (zf rfl (jt _ _) ?_))))
 refine zd rfl (aW rfl (s.ld (k:=0) rfl ke rfl)) ?_ ?_
 ·intro J
  exact zk 7 rfl (WP.ret ⟨aa,_,rfl,.inl ⟨J,rfl,s0⟩⟩)
 ·intro J
  refine zk 4 rfl (WP.drawn [ai,ai,ai,ai,ai,ai,ai,ai,ai,ai,ai,ai,ai,ai] rfl (by kernel_rfl) (by kernel_rfl) ?_)
  refine zM rfl (zO rfl (bf rfl rfl rfl (bj aS (s.aL (k:=8) rfl hX))) (zM rfl (zN rfl (zF rfl (Kl _ _) (zL rfl (s.ld (k:=0) rfl dA rfl) (zM rfl (zN rfl (zF rfl (js _ _) (zL rfl (s.ld (k:=0) rfl bO rfl) (zO rfl (bf rfl rfl rfl (bj aS (s.aL (k:=4) rfl (bM _ _)))) (zO rfl (ah rfl rfl (by exact lV (aY (by omega) (by omega)))) ?_)))))))))))
  refine aA.V_ rfl rfl rfl rfl (ah rfl rfl ep) ?_ ?_
  ·intro I
   have I:δ.room<δ.log.length+b.length:=by simp at I; omega
   refine zA rfl ?_
   refine aA.nil ⟨⟨aa,aa,aa,aa,aa,aa,aa,aa,aa,aa,aa,aa,aa,aa,aa⟩,?_⟩
   exact zK 5 rfl (WP.ret ⟨aa,_,rfl,.inr (.inl ⟨J,I,rfl,s0⟩)⟩)
  ·intro I
   have I:δ.log.length+b.length≤δ.room:=by simp at I; omega
   refine zA rfl ?_
   refine aA.nil ⟨⟨aa,aa,aa,aa,aa,aa,aa,aa,aa,aa,aa,aa,aa,aa,aa⟩,?_⟩
   refine zK 4 rfl (zc rfl (mN hT s0 hf) ?_)
   rintro v h (⟨h0,rfl,s⟩ | ⟨h0,rfl,s⟩)
   ·skip
    refine zo rfl (dS rfl rfl) (zk 7 rfl (zc rfl (gQ hT (s.ae [1]) hX hb) ?_))
    intro v h s
    have s:=(s.fN).ae [2,0,0]
    obtain ⟨pg,wt,nw,lg,mk,tn,tl,ops,s⟩:=bt.1 s
    have U:=(s.aL (k:=8) rfl (cJ _ _)).cells
    refine zn rfl (zf rfl (BZ _ _) (zS rfl (s.ee (k:=0) rfl jM rfl (by decide) U.1 U.2) ?_))
    intro h s
    exact zk 5 rfl (WP.ret ⟨aa,_,rfl,.inr (.inr (.inl ⟨J,I,h0,rfl,bt.2 ⟨pg,wt,nw,lg,mk,tn,v,ops,s.del 7⟩⟩))⟩)
   ·skip
    obtain ⟨pg,wt,nw,lg,mk,tn,tl,ops,s⟩:=bt.1 s
    dsimp only [Dk.c9] at s
    refine zo rfl (dS rfl rfl) (za rfl (zv (zj rfl (WP.skip (zg rfl (zk 3 rfl (zf rfl (js _ _) (zl rfl (by exact s.ld (k:=0) rfl bO rfl) ?_))))))))
    refine zm rfl (aB.any rfl rfl rfl (OpR.oX rfl (s.ae [4,7]) hX rfl rfl rfl rfl (by show δ.log.length+_≤_; omega)) ?_)
    intro v h s
    have U:=(s.buf (k:=0) rfl).view.cells
    refine zn rfl (zf rfl (js _ _) (zS rfl (s.ee (k:=2) rfl jM rfl (by decide) U.1 U.2) ?_))
    intro h s
    exact zk 5 rfl (WP.ret ⟨aa,_,rfl,.inr (.inr (.inr ⟨J,I,h0,rfl,bt.2 ⟨pg,wt,nw,v,mk,tn,tl,ops,s.ae [2,2,2,2,0,1,1,1]⟩⟩))⟩)
end
end Go.Proofs.YtconhghphklfjaaGreat.Am
