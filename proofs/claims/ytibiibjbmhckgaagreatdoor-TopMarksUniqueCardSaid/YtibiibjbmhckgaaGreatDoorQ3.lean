import Derived.Test.YtibiibjbmhckgaaGreatDoorQ2
import Derived.Test.YtibiibjbmhckgaaGreatDoorRows
import Derived.Shelf.Sort.Plain
import Derived.Shelf.Strings.Trim
import Derived.Shelf.Small.Wraps
import Derived.Shelf.Strings.BuilderK
import Derived.Shelf.Utf8.RuneCount
import Derived.Shelf.Strconv.Itoa3
import Derived.Shelf.Strings.Shaped
import Derived.Shelf.GgClosure.StringsRunes
import Derived.Shelf.Strings.SplitShaped
import Derived.Shelf.Unicode.Decode
import Derived.Shelf.Strings.Runes
import Derived.Shelf.Strings.RuneCount
import Derived.Shelf.Strings.AsciiSet
import Derived.Shelf.Strings.Repeat
import Derived.Shelf.Slices.Clone
import Derived.Shelf.Slices.Cells
import Derived.Shelf.Slices.In.SortNone
import Derived.Shelf.Slices.Empties
import Derived.Shelf.SlicesE.Clone
import Derived.Shelf.SlicesE.DeleteFunc
import Derived.Shelf.SlSortCmp.NoneTotal
set_option linter.unusedVariables false
set_option linter.unusedSimpArgs false
set_option linter.defProp false
namespace Go.Proofs.YtibiibjbmhckgaaGreatDoor
open Go Go.F7 Proofs.Tryz
def ti2:TI:=⟨.int .i64,1,8,[.int .i64 0],false,[]⟩
def rW:TI:=⟨.int .i64,1,8,[.int .i64 0],false,[]⟩
def ti4:TI:=⟨.bool,1,1,[.bool false],false,[]⟩
def ti5:TI:=⟨.int .u8,1,1,[.int .u8 0],false,[]⟩
def ti6:TI:=⟨.int .u8,1,1,[.int .u8 0],false,[]⟩
def ti7:TI:=⟨.struct #[⟨ "x",2,0,false,"","runtime",0⟩,⟨ "y",3,1,false,"","runtime",8⟩,⟨ "signed",4,2,false,"","runtime",16⟩,⟨ "code",6,3,false,"","runtime",17⟩],4,24,[.int .i64 0,.int .i64 0,.bool false,.int .u8 0],true,[]⟩
def ti8:TI:=⟨.struct #[⟨ "x",2,0,false,"","runtime",0⟩,⟨ "y",3,1,false,"","runtime",8⟩,⟨ "signed",4,2,false,"","runtime",16⟩,⟨ "code",6,3,false,"","runtime",17⟩],4,24,[.int .i64 0,.int .i64 0,.bool false,.int .u8 0],true,[]⟩
def ti9:TI:=⟨.string,1,16,[.string ⟨#[]⟩],false,[]⟩
def dv3:TI:=⟨.string,1,16,[.string ⟨#[]⟩],false,[]⟩
def dv5:TI:=⟨.string,1,16,[.string ⟨#[]⟩],false,[]⟩
def dv7:TI:=⟨.int .u64,1,8,[.int .u64 0],false,[]⟩
def dv8:TI:=⟨.struct #[⟨ "msg",9,0,false,"","runtime",0⟩,⟨ "addr",12,1,false,"","runtime",16⟩],2,24,[.string ⟨#[]⟩,.int .u64 0],true,[]⟩
def dw0:TI:=⟨.struct #[⟨ "msg",9,0,false,"","runtime",0⟩,⟨ "addr",12,1,false,"","runtime",16⟩],2,24,[.string ⟨#[]⟩,.int .u64 0],true,[]⟩
def dw8:TI:=⟨.struct #[⟨ "typ",17,0,false,"","internal/runtime/maps",0⟩],1,8,[.pointer none],true,[]⟩
def dx1:TI:=⟨.struct #[⟨ "typ",17,0,false,"","internal/runtime/maps",0⟩],1,8,[.pointer none],true,[]⟩
def b57:TI:=⟨.int .i32,1,4,[.int .i32 0],false,[]⟩
def aA0:TI:=⟨.slice 33,1,24,[.slice none 0 0],false,[12]⟩
def aA1:TI:=⟨.slice 3,1,24,[.slice none 0 0],false,[1]⟩
def b71:TI:=⟨.int .i64,1,8,[.int .i64 0],false,[]⟩
def dx5:TI:=⟨.struct #[⟨ "Office",3,0,false,"","",0⟩,⟨ "Accession",3,1,false,"","",8⟩,⟨ "Number",3,2,false,"","",16⟩],3,24,[.int .i64 0,.int .i64 0,.int .i64 0],true,[]⟩
def b80:TI:=⟨.struct #[⟨ "Office",3,0,false,"","",0⟩,⟨ "Accession",3,1,false,"","",8⟩,⟨ "Number",3,2,false,"","",16⟩],3,24,[.int .i64 0,.int .i64 0,.int .i64 0],true,[]⟩
def dx6:TI:=⟨.struct #[⟨ "ID",3,0,false,"","",0⟩,⟨ "Day",3,1,false,"","",8⟩,⟨ "Kind",3,2,false,"","",16⟩,⟨ "Unit",3,3,false,"","",24⟩,⟨ "Parent",3,4,false,"","",32⟩,⟨ "Before",3,5,false,"","",40⟩,⟨ "Level",3,6,false,"","",48⟩,⟨ "Title",9,7,false,"","",56⟩,⟨ "Mark",9,8,false,"","",72⟩,⟨ "Origin",31,9,false,"","",88⟩],12,112,[.int .i64 0,.int .i64 0,.int .i64 0,.int .i64 0,.int .i64 0,.int .i64 0,.int .i64 0,.string ⟨#[]⟩,.string ⟨#[]⟩,.int .i64 0,.int .i64 0,.int .i64 0],true,[]⟩
def JR:TI:=⟨.struct #[⟨ "ID",3,0,false,"","",0⟩,⟨ "Day",3,1,false,"","",8⟩,⟨ "Kind",3,2,false,"","",16⟩,⟨ "Unit",3,3,false,"","",24⟩,⟨ "Parent",3,4,false,"","",32⟩,⟨ "Before",3,5,false,"","",40⟩,⟨ "Level",3,6,false,"","",48⟩,⟨ "Title",9,7,false,"","",56⟩,⟨ "Mark",9,8,false,"","",72⟩,⟨ "Origin",31,9,false,"","",88⟩],12,112,[.int .i64 0,.int .i64 0,.int .i64 0,.int .i64 0,.int .i64 0,.int .i64 0,.int .i64 0,.string ⟨#[]⟩,.string ⟨#[]⟩,.int .i64 0,.int .i64 0,.int .i64 0],true,[]⟩
def aA2:TI:=⟨.slice 52,1,24,[.slice none 0 0],false,[6]⟩
def dx7:TI:=⟨.struct #[⟨ "Roots",26,0,false,"","",0⟩,⟨ "Branches",34,1,false,"","",24⟩],2,48,[.slice none 0 0,.slice none 0 0],true,[1,6]⟩
def b81:TI:=⟨.struct #[⟨ "Roots",26,0,false,"","",0⟩,⟨ "Branches",34,1,false,"","",24⟩],2,48,[.slice none 0 0,.slice none 0 0],true,[1,6]⟩
def aA4:TI:=⟨.map 9 3,1,8,[.map none],false,[]⟩
def bd2:TI:=⟨.map 9 4,1,8,[.map none],false,[]⟩
def dx8:TI:=⟨.struct #[⟨ "ID",3,0,false,"","",0⟩,⟨ "Parent",3,1,false,"","",8⟩,⟨ "Level",3,2,false,"","",16⟩,⟨ "Title",9,3,false,"","",24⟩,⟨ "Mark",9,4,false,"","",40⟩],5,56,[.int .i64 0,.int .i64 0,.int .i64 0,.string ⟨#[]⟩,.string ⟨#[]⟩],true,[]⟩
def b89:TI:=⟨.struct #[⟨ "ID",3,0,false,"","",0⟩,⟨ "Parent",3,1,false,"","",8⟩,⟨ "Level",3,2,false,"","",16⟩,⟨ "Title",9,3,false,"","",24⟩,⟨ "Mark",9,4,false,"","",40⟩],5,56,[.int .i64 0,.int .i64 0,.int .i64 0,.string ⟨#[]⟩,.string ⟨#[]⟩],true,[]⟩
def dx9:TI:=⟨.struct #[⟨ "Unit",50,0,false,"","",0⟩,⟨ "Kids",26,5,false,"","",56⟩],6,80,[.int .i64 0,.int .i64 0,.int .i64 0,.string ⟨#[]⟩,.string ⟨#[]⟩,.slice none 0 0],true,[0,0,0,0,0,1]⟩
def xO:TI:=⟨.struct #[⟨ "Unit",50,0,false,"","",0⟩,⟨ "Kids",26,5,false,"","",56⟩],6,80,[.int .i64 0,.int .i64 0,.int .i64 0,.string ⟨#[]⟩,.string ⟨#[]⟩,.slice none 0 0],true,[0,0,0,0,0,1]⟩
def dy0:TI:=⟨.slice 58,1,24,[.slice none 0 0],false,[2]⟩
def dy1:TI:=⟨.struct #[⟨ "Mark",9,0,false,"","",0⟩,⟨ "Unit",3,1,false,"","",16⟩],2,24,[.string ⟨#[]⟩,.int .i64 0],true,[]⟩
def aA5:TI:=⟨.struct #[⟨ "Mark",9,0,false,"","",0⟩,⟨ "Unit",3,1,false,"","",16⟩],2,24,[.string ⟨#[]⟩,.int .i64 0],true,[]⟩
def dw3:TI:=⟨.pointer 525,1,8,[.pointer none],false,[]⟩
def dw5:TI:=⟨.pointer 528,1,8,[.pointer none],false,[]⟩
def dw6:TI:=⟨.pointer 535,1,8,[.pointer none],false,[]⟩
def b90:TI:=⟨.slice 9,1,24,[.slice none 0 0],false,[1]⟩
def b91:TI:=⟨.slice 259,1,24,[.slice none 0 0],false,[4]⟩
def b92:TI:=⟨.slice 264,1,24,[.slice none 0 0],false,[5]⟩
def b93:TI:=⟨.slice 268,1,24,[.slice none 0 0],false,[6]⟩
def b94:TI:=⟨.slice 254,1,24,[.slice none 0 0],false,[5]⟩
def b95:TI:=⟨.slice 148,1,24,[.slice none 0 0],false,[4]⟩
def dy3:TI:=⟨.struct #[⟨ "Languages",60,0,false,"","",0⟩,⟨ "Lists",61,1,false,"","",24⟩,⟨ "Accessions",62,2,false,"","",48⟩,⟨ "Log",22,3,false,"","",72⟩,⟨ "Authorities",63,4,false,"","",96⟩,⟨ "Relations",64,5,false,"","",120⟩,⟨ "Values",65,6,false,"","",144⟩,⟨ "Changed",3,7,false,"","",168⟩],8,176,[.slice none 0 0,.slice none 0 0,.slice none 0 0,.slice none 0 0,.slice none 0 0,.slice none 0 0,.slice none 0 0,.int .i64 0],true,[1,4,5,12,6,5,4]⟩
def b96:TI:=⟨.struct #[⟨ "Languages",60,0,false,"","",0⟩,⟨ "Lists",61,1,false,"","",24⟩,⟨ "Accessions",62,2,false,"","",48⟩,⟨ "Log",22,3,false,"","",72⟩,⟨ "Authorities",63,4,false,"","",96⟩,⟨ "Relations",64,5,false,"","",120⟩,⟨ "Values",65,6,false,"","",144⟩,⟨ "Changed",3,7,false,"","",168⟩],8,176,[.slice none 0 0,.slice none 0 0,.slice none 0 0,.slice none 0 0,.slice none 0 0,.slice none 0 0,.slice none 0 0,.int .i64 0],true,[1,4,5,12,6,5,4]⟩
def dy5:TI:=⟨.struct #[⟨ "ID",3,0,false,"","",0⟩,⟨ "Day",3,1,false,"","",8⟩,⟨ "Kind",3,2,false,"","",16⟩,⟨ "Numbers",26,3,false,"","",24⟩,⟨ "Texts",60,4,false,"","",48⟩],5,72,[.int .i64 0,.int .i64 0,.int .i64 0,.slice none 0 0,.slice none 0 0],true,[0,0,0,1,1]⟩
def b97:TI:=⟨.struct #[⟨ "ID",3,0,false,"","",0⟩,⟨ "Day",3,1,false,"","",8⟩,⟨ "Kind",3,2,false,"","",16⟩,⟨ "Numbers",26,3,false,"","",24⟩,⟨ "Texts",60,4,false,"","",48⟩],5,72,[.int .i64 0,.int .i64 0,.int .i64 0,.slice none 0 0,.slice none 0 0],true,[0,0,0,1,1]⟩
def b98:TI:=⟨.slice 71,1,24,[.slice none 0 0],false,[5]⟩
def aA6:TI:=⟨.slice 134,1,24,[.slice none 0 0],false,[4]⟩
def b99:TI:=⟨.func #[92,33] #[27] false,1,8,[.nilFunc],false,[]⟩
def dy7:TI:=⟨.pointer 98,1,8,[.pointer none],false,[]⟩
def ca4:TI:=⟨.map 3 90,1,8,[.map none],false,[]⟩
def dy8:TI:=⟨.struct #[⟨ "t",36,0,false,"","archivum/rearrange",0⟩],2,48,[.slice none 0 0,.slice none 0 0],true,[1,6]⟩
def ca5:TI:=⟨.struct #[⟨ "t",36,0,false,"","archivum/rearrange",0⟩],2,48,[.slice none 0 0,.slice none 0 0],true,[1,6]⟩
def dy9:TI:=⟨.pointer 104,1,8,[.pointer none],false,[]⟩
def dv4:TI:=⟨.struct #[⟨ "l",22,0,false,"","archivum/undo",0⟩,⟨ "t",36,1,false,"","archivum/undo",24⟩,⟨ "came",75,3,false,"","archivum/undo",72⟩,⟨ "owns",47,4,false,"","archivum/undo",96⟩],5,104,[.slice none 0 0,.slice none 0 0,.slice none 0 0,.slice none 0 0,.map none],true,[12,1,6,4]⟩
def b37:TI:=⟨.struct #[⟨ "l",22,0,false,"","archivum/undo",0⟩,⟨ "t",36,1,false,"","archivum/undo",24⟩,⟨ "came",75,3,false,"","archivum/undo",72⟩,⟨ "owns",47,4,false,"","archivum/undo",96⟩],5,104,[.slice none 0 0,.slice none 0 0,.slice none 0 0,.slice none 0 0,.map none],true,[12,1,6,4]⟩
def b38:TI:=⟨.int .u64,1,8,[.int .u64 0],false,[]⟩
def b39:TI:=⟨.pointer 115,1,8,[.pointer none],false,[]⟩
def b40:TI:=⟨.slice 5,1,24,[.slice none 0 0],false,[1]⟩
def dv6:TI:=⟨.struct #[⟨ "addr",112,0,false,"","strings",0⟩,⟨ "buf",113,1,false,"","strings",8⟩],2,32,[.pointer none,.slice none 0 0],true,[0,1]⟩
def b41:TI:=⟨.struct #[⟨ "addr",112,0,false,"","strings",0⟩,⟨ "buf",113,1,false,"","strings",8⟩],2,32,[.pointer none,.slice none 0 0],true,[0,1]⟩
def b42:TI:=⟨.func #[36,3] #[27] false,1,8,[.nilFunc],false,[]⟩
def dv9:TI:=⟨.struct #[⟨ "Unit",3,0,false,"","",0⟩,⟨ "Origin",31,1,false,"","",8⟩],4,32,[.int .i64 0,.int .i64 0,.int .i64 0,.int .i64 0],true,[]⟩
def JQ:TI:=⟨.struct #[⟨ "Unit",3,0,false,"","",0⟩,⟨ "Origin",31,1,false,"","",8⟩],4,32,[.int .i64 0,.int .i64 0,.int .i64 0,.int .i64 0],true,[]⟩
def b43:TI:=⟨.func #[134] #[4] false,1,8,[.nilFunc],false,[]⟩
def dw1:TI:=⟨.struct #[⟨ "b",115,0,false,"","archivum/describe",0⟩],2,32,[.pointer none,.slice none 0 0],true,[0,1]⟩
def b44:TI:=⟨.struct #[⟨ "b",115,0,false,"","archivum/describe",0⟩],2,32,[.pointer none,.slice none 0 0],true,[0,1]⟩
def dw2:TI:=⟨.struct #[⟨ "Unit",3,0,false,"","",0⟩,⟨ "Element",3,1,false,"","",8⟩,⟨ "Language",9,2,false,"","",16⟩,⟨ "Text",9,3,false,"","",32⟩],4,48,[.int .i64 0,.int .i64 0,.string ⟨#[]⟩,.string ⟨#[]⟩],true,[]⟩
def b45:TI:=⟨.struct #[⟨ "Unit",3,0,false,"","",0⟩,⟨ "Element",3,1,false,"","",8⟩,⟨ "Language",9,2,false,"","",16⟩,⟨ "Text",9,3,false,"","",32⟩],4,48,[.int .i64 0,.int .i64 0,.string ⟨#[]⟩,.string ⟨#[]⟩],true,[]⟩
def b46:TI:=⟨.map 50 3,1,8,[.map none],false,[]⟩
def b47:TI:=⟨.func #[26] #[26] false,1,8,[.nilFunc],false,[]⟩
def az9:TI:=⟨.map 3 4,1,8,[.map none],false,[]⟩
def b48:TI:=⟨.pointer 52,1,8,[.pointer none],false,[]⟩
def dw4:TI:=⟨.pointer 26,1,8,[.pointer none],false,[]⟩
def dw7:TI:=⟨.int .u32,1,4,[.int .u32 0],false,[]⟩
def b49:TI:=⟨.int .u64,1,8,[.int .u64 0],false,[]⟩
def b50:TI:=⟨.pointer 5,1,8,[.pointer none],false,[]⟩
def b51:TI:=⟨.func #[188,71] #[27] false,1,8,[.nilFunc],false,[]⟩
def dw9:TI:=⟨.struct #[⟨ "numbers",3,0,false,"","archivum/holdings",0⟩,⟨ "texts",3,1,false,"","archivum/holdings",8⟩,⟨ "do",181,2,false,"","archivum/holdings",16⟩],3,24,[.int .i64 0,.int .i64 0,.nilFunc],true,[]⟩
def b52:TI:=⟨.struct #[⟨ "numbers",3,0,false,"","archivum/holdings",0⟩,⟨ "texts",3,1,false,"","archivum/holdings",8⟩,⟨ "do",181,2,false,"","archivum/holdings",16⟩],3,24,[.int .i64 0,.int .i64 0,.nilFunc],true,[]⟩
def b53:TI:=⟨.map 3 183,1,8,[.map none],false,[]⟩
def dx0:TI:=⟨.pointer 191,1,8,[.pointer none],false,[]⟩
def dx2:TI:=⟨.struct #[⟨ "Holdings",67,0,true,"","",0⟩],8,176,[.slice none 0 0,.slice none 0 0,.slice none 0 0,.slice none 0 0,.slice none 0 0,.slice none 0 0,.slice none 0 0,.int .i64 0],true,[1,4,5,12,6,5,4]⟩
def b54:TI:=⟨.struct #[⟨ "Holdings",67,0,true,"","",0⟩],8,176,[.slice none 0 0,.slice none 0 0,.slice none 0 0,.slice none 0 0,.slice none 0 0,.slice none 0 0,.slice none 0 0,.int .i64 0],true,[1,4,5,12,6,5,4]⟩
def b55:TI:=⟨.func #[3,3] #[4] false,1,8,[.nilFunc],false,[]⟩
def b56:TI:=⟨.struct #[⟨ "Tree",36,0,true,"","",0⟩,⟨ "languages",60,2,false,"","archivum/inherit",48⟩,⟨ "values",65,3,false,"","archivum/inherit",72⟩],4,96,[.slice none 0 0,.slice none 0 0,.slice none 0 0,.slice none 0 0],true,[1,6,1,4]⟩
def b58:TI:=⟨.slice 34,1,24,[.slice none 0 0],false,[1]⟩
def b59:TI:=⟨.slice 125,1,24,[.slice none 0 0],false,[1]⟩
def dx3:TI:=⟨.int .i64,1,8,[.int .i64 0],false,[]⟩
def b60:TI:=⟨.unsafePointer,1,8,[.pointer none],false,[]⟩
def b61:TI:=⟨.struct #[⟨ "From",3,0,false,"","",0⟩,⟨ "Until",3,1,false,"","",8⟩],2,16,[.int .i64 0,.int .i64 0],true,[]⟩
def b62:TI:=⟨.struct #[⟨ "Unit",3,0,false,"","",0⟩,⟨ "Role",3,1,false,"","",8⟩,⟨ "Authority",3,2,false,"","",16⟩,⟨ "In",252,3,false,"","",24⟩],5,40,[.int .i64 0,.int .i64 0,.int .i64 0,.int .i64 0,.int .i64 0],true,[]⟩
def b63:TI:=⟨.slice 273,1,24,[.slice none 0 0],false,[7]⟩
def b65:TI:=⟨.struct #[⟨ "ID",3,0,false,"","",0⟩,⟨ "Office",3,1,false,"","",8⟩,⟨ "Day",3,2,false,"","",16⟩,⟨ "Items",257,3,false,"","",24⟩],4,48,[.int .i64 0,.int .i64 0,.int .i64 0,.slice none 0 0],true,[0,0,0,7]⟩
def b66:TI:=⟨.slice 277,1,24,[.slice none 0 0],false,[3]⟩
def b67:TI:=⟨.slice 280,1,24,[.slice none 0 0],false,[2]⟩
def b68:TI:=⟨.struct #[⟨ "ID",3,0,false,"","",0⟩,⟨ "List",3,1,false,"","",8⟩,⟨ "Day",3,2,false,"","",16⟩,⟨ "Received",261,3,false,"","",24⟩,⟨ "Agreed",262,4,false,"","",48⟩],5,72,[.int .i64 0,.int .i64 0,.int .i64 0,.slice none 0 0,.slice none 0 0],true,[0,0,0,3,2]⟩
def b69:TI:=⟨.slice 284,1,24,[.slice none 0 0],false,[3]⟩
def b70:TI:=⟨.struct #[⟨ "ID",3,0,false,"","",0⟩,⟨ "Kind",3,1,false,"","",8⟩,⟨ "In",252,2,false,"","",16⟩,⟨ "Names",266,4,false,"","",32⟩,⟨ "Next",26,5,false,"","",56⟩],6,80,[.int .i64 0,.int .i64 0,.int .i64 0,.int .i64 0,.slice none 0 0,.slice none 0 0],true,[0,0,0,0,3,1]⟩
def b72:TI:=⟨.struct #[⟨ "First",3,0,false,"","",0⟩,⟨ "Last",3,1,false,"","",8⟩],2,16,[.int .i64 0,.int .i64 0],true,[]⟩
def b73:TI:=⟨.struct #[⟨ "Number",3,0,false,"","",0⟩,⟨ "File",3,1,false,"","",8⟩,⟨ "Title",9,2,false,"","",16⟩,⟨ "Dating",271,3,false,"","",32⟩,⟨ "Pages",3,5,false,"","",48⟩,⟨ "Digest",9,6,false,"","",56⟩],7,72,[.int .i64 0,.int .i64 0,.string ⟨#[]⟩,.int .i64 0,.int .i64 0,.int .i64 0,.string ⟨#[]⟩],true,[]⟩
def dx4:TI:=⟨.struct #[⟨ "Number",3,0,false,"","",0⟩,⟨ "Pages",3,1,false,"","",8⟩,⟨ "Digest",9,2,false,"","",16⟩],3,32,[.int .i64 0,.int .i64 0,.string ⟨#[]⟩],true,[]⟩
def b74:TI:=⟨.struct #[⟨ "Number",3,0,false,"","",0⟩,⟨ "Pages",3,1,false,"","",8⟩,⟨ "Digest",9,2,false,"","",16⟩],3,32,[.int .i64 0,.int .i64 0,.string ⟨#[]⟩],true,[]⟩
def b75:TI:=⟨.struct #[⟨ "Kind",3,0,false,"","",0⟩,⟨ "Number",3,1,false,"","",8⟩],2,16,[.int .i64 0,.int .i64 0],true,[]⟩
def b76:TI:=⟨.struct #[⟨ "Text",9,0,false,"","",0⟩,⟨ "In",252,1,false,"","",16⟩],3,32,[.string ⟨#[]⟩,.int .i64 0,.int .i64 0],true,[]⟩
def b77:TI:=⟨.slice 26,1,24,[.slice none 0 0],false,[1]⟩
def b78:TI:=⟨.slice 27,1,24,[.slice none 0 0],false,[1]⟩
def b79:TI:=⟨.struct #[⟨ "word",9,0,false,"","archivum/element",0⟩,⟨ "inherited",4,1,false,"","archivum/element",16⟩,⟨ "levels",3,2,false,"","archivum/element",24⟩],3,32,[.string ⟨#[]⟩,.bool false,.int .i64 0],true,[]⟩
def b82:TI:=⟨.array 256 4,256,256,[.bool false,.bool false,.bool false,.bool false,.bool false,.bool false,.bool false,.bool false,.bool false,.bool false,.bool false,.bool false,.bool false,.bool false,.bool false,.bool false,.bool false,.bool false,.bool false,.bool false,.bool false,.bool false,.bool false,.bool false,.bool false,.bool false,.bool false,.bool false,.bool false,.bool false,.bool false,.bool false,.bool false,.bool false,.bool false,.bool false,.bool false,.bool false,.bool false,.bool false,.bool false,.bool false,.bool false,.bool false,.bool false,.bool false,.bool false,.bool false,.bool false,.bool false,.bool false,.bool false,.bool false,.bool false,.bool false,.bool false,.bool false,.bool false,.bool false,.bool false,.bool false,.bool false,.bool false,.bool false,.bool false,.bool false,.bool false,.bool false,.bool false,.bool false,.bool false,.bool false,.bool false,.bool false,.bool false,.bool false,.bool false,.bool false,.bool false,.bool false,.bool false,.bool false,.bool false,.bool false,.bool false,.bool false,.bool false,.bool false,.bool false,.bool false,.bool false,.bool false,.bool false,.bool false,.bool false,.bool false,.bool false,.bool false,.bool false,.bool false,.bool false,.bool false,.bool false,.bool false,.bool false,.bool false,.bool false,.bool false,.bool false,.bool false,.bool false,.bool false,.bool false,.bool false,.bool false,.bool false,.bool false,.bool false,.bool false,.bool false,.bool false,.bool false,.bool false,.bool false,.bool false,.bool false,.bool false,.bool false,.bool false,.bool false,.bool false,.bool false,.bool false,.bool false,.bool false,.bool false,.bool false,.bool false,.bool false,.bool false,.bool false,.bool false,.bool false,.bool false,.bool false,.bool false,.bool false,.bool false,.bool false,.bool false,.bool false,.bool false,.bool false,.bool false,.bool false,.bool false,.bool false,.bool false,.bool false,.bool false,.bool false,.bool false,.bool false,.bool false,.bool false,.bool false,.bool false,.bool false,.bool false,.bool false,.bool false,.bool false,.bool false,.bool false,.bool false,.bool false,.bool false,.bool false,.bool false,.bool false,.bool false,.bool false,.bool false,.bool false,.bool false,.bool false,.bool false,.bool false,.bool false,.bool false,.bool false,.bool false,.bool false,.bool false,.bool false,.bool false,.bool false,.bool false,.bool false,.bool false,.bool false,.bool false,.bool false,.bool false,.bool false,.bool false,.bool false,.bool false,.bool false,.bool false,.bool false,.bool false,.bool false,.bool false,.bool false,.bool false,.bool false,.bool false,.bool false,.bool false,.bool false,.bool false,.bool false,.bool false,.bool false,.bool false,.bool false,.bool false,.bool false,.bool false,.bool false,.bool false,.bool false,.bool false,.bool false,.bool false,.bool false,.bool false,.bool false,.bool false,.bool false,.bool false,.bool false,.bool false,.bool false,.bool false,.bool false,.bool false,.bool false,.bool false,.bool false,.bool false,.bool false,.bool false,.bool false,.bool false],true,[]⟩
def b83:TI:=⟨.array 9 305,27,288,[.string ⟨#[]⟩,.bool false,.int .i64 0,.string ⟨#[]⟩,.bool false,.int .i64 0,.string ⟨#[]⟩,.bool false,.int .i64 0,.string ⟨#[]⟩,.bool false,.int .i64 0,.string ⟨#[]⟩,.bool false,.int .i64 0,.string ⟨#[]⟩,.bool false,.int .i64 0,.string ⟨#[]⟩,.bool false,.int .i64 0,.string ⟨#[]⟩,.bool false,.int .i64 0,.string ⟨#[]⟩,.bool false,.int .i64 0],true,[]⟩
def b84:TI:=⟨.map 3 457,1,8,[.map none],false,[]⟩
def b85:TI:=⟨.pointer 273,1,8,[.pointer none],false,[]⟩
def b86:TI:=⟨.pointer 277,1,8,[.pointer none],false,[]⟩
def b87:TI:=⟨.struct #[⟨ "item",454,0,false,"","archivum/accession",0⟩,⟨ "got",455,1,false,"","archivum/accession",8⟩],2,16,[.pointer none,.pointer none],true,[]⟩
def tab:Tab:=[(2,ti2),(3,rW),(4,ti4),(5,ti5),(6,ti6),(7,ti7),(8,ti8),(9,ti9),(10,dv3),(11,dv5),(12,dv7),(13,dv8),(14,dw0),(18,dw8),(19,dx1),(21,b57),(22,aA0),(26,aA1),(27,b71),(30,dx5),(31,b80),(32,dx6),(33,JR),(34,aA2),(35,dx7),(36,b81),(47,aA4),(48,bd2),(49,dx8),(50,b89),(51,dx9),(52,xO),(54,dy0),(57,dy1),(58,aA5),(15,dw3),(16,dw5),(17,dw6),(60,b90),(61,b91),(62,b92),(63,b93),(64,b94),(65,b95),(66,dy3),(67,b96),(70,dy5),(71,b97),(72,b98),(75,aA6),(90,b99),(92,dy7),(93,ca4),(97,dy8),(98,ca5),(99,dy9),(103,dv4),(104,b37),(108,b38),(112,b39),(113,b40),(114,dv6),(115,b41),(125,b42),(133,dv9),(134,JQ),(136,b43),(144,dw1),(145,b44),(147,dw2),(148,b45),(149,b46),(152,b47),(154,az9),(156,b48),(159,dw4),(174,dw7),(177,b49),(180,b50),(181,b51),(182,dw9),(183,b52),(185,b53),(188,dx0),(190,dx2),(191,b54),(193,b55),(206,b56),(217,b58),(230,b59),(237,dx3),(245,b60),(252,b61),(254,b62),(257,b63),(259,b65),(261,b66),(262,b67),(264,b68),(266,b69),(268,b70),(271,b72),(273,b73),(276,dx4),(277,b74),(280,b75),(284,b76),(293,b77),(296,b78),(305,b79),(367,b82),(376,b83),(453,b84),(454,b85),(455,b86),(457,b87)]
def cc6{P:Program}:∀{T:Tab},(T.map λx=>P.underlying x.1)=(T.map λx=>some x.2.desc)->(T.map λx=>(P.info? x.1).map λj=>(j.size,j.bytes))=(T.map λx=>some (x.2.size,x.2.bytes))->
    (T.map λx=>(P.info? x.1).bind λj=>j.zero)=(T.map λx=>some (Q9 x.2))->(T.all λx=>(x.2.isAgg==YN x.2.desc&&x.2.zero.all λz=>z.oneCell')&&(x.2.zero.length==x.2.size&&(x.2.isAgg || x.2.size==1)))=true->aA P T
 |[],_,_,_,_=>dz9 _
 |(t,i)::r,h1,h2,h3,h4=>by
  injection h1 with a1 b1
  injection h2 with a2 b2
  injection h3 with a3 b3
  simp only[List.all_cons,Z4,beq_iff_eq,Bool.or_eq_true]at h4;obtain⟨⟨⟨q1,q2⟩,q3,q4⟩,b4⟩:=h4;exact dz8 ⟨a1,a2,a3,q1,q2,q3,λh=>q4.resolve_left (by rw[h];exact Bool.noConfusion)⟩ (cc6 b1 b2 b3 b4)
set_option maxRecDepth 20000 in
def O9:aA prog tab:=cc6 (by kernel_rfl) (by kernel_rfl) (by kernel_rfl) (by kernel_rfl)
theorem xP:O6 prog 3 rW:=O9 3 rW rfl
theorem ai8:O6 prog 4 ti4:=O9 4 ti4 rfl
theorem vZ:O6 prog 9 ti9:=O9 9 ti9 rfl
theorem XF:O6 prog 22 aA0:=O9 22 aA0 rfl
theorem dz6:O6 prog 26 aA1:=O9 26 aA1 rfl
theorem XG:O6 prog 33 JR:=O9 33 JR rfl
theorem aB1:O6 prog 34 aA2:=O9 34 aA2 rfl
theorem zH:O6 prog 47 aA4:=O9 47 aA4 rfl
theorem be0:O6 prog 48 bd2:=O9 48 bd2 rfl
theorem xQ:O6 prog 52 xO:=O9 52 xO rfl
theorem dz7:O6 prog 58 aA5:=O9 58 aA5 rfl
theorem XH:O6 prog 75 aA6:=O9 75 aA6 rfl
theorem XD:O6 prog 134 JQ:=O9 134 JQ rfl
theorem XE:O6 prog 154 az9:=O9 154 az9 rfl
def mixed:prog.follows .mixedOrders=true:=by kernel_rfl
end Go.Proofs.YtibiibjbmhckgaaGreatDoor
section
namespace Go
abbrev C9:=@And.intro
abbrev X0:=@List.length_map
abbrev iR:=@of_decide_eq_true
abbrev mP:=@eq_of_beq
abbrev qN:=@MapKept.run_getObj_map
abbrev xY:=@List.getElem?_set
abbrev KQ:=@MapKept.run_setObj_map
abbrev QX:=@Array.getElem?_append_left
end Go
namespace Go.F7
open Go Go.RowKit
section
variable{P:Program}{G:aB}
def pW{c:Call}{ty:TypeId}{fo:Operand}(hc:c.callee=.value fo){f:FuncId}{caps l7:dG}{os os':Y0}{r:SV}{fs:SV}
    (hfs:fs=.V4 (.fn f) caps\/∃cs:G9,fs=.c (.fn f cs)/\caps=cs.map SV.c) (h:gI P G f (l7++caps) os r os'):fD P G (.call c) ty (fs::l7) os r os':=by
 obtain⟨⟨fn,hfn,hnm,hbd⟩,h⟩:=h;intro Z w Eo a o next Q ho hty hg hz hl hargs hgs hnext
 obtain⟨dst,op,type,pos,after,guard⟩:=o;simp only at ho hty;subst ho;subst hty;have hops:(Op.call c).operands=#[fo]++c.args:=by simp[Op.operands,Call.operands,hc]
 rw[hops]at hl hargs;have hfv:=hargs 0 fs fo rfl (by rw[QX (Nat.zero_lt_one)];rfl);have hcap:∃cv:H6,a.eval fo=.func (.func f) #[] cv.toArray/\caps.length=cv.length/\∀(i:Nat)(s:SV)(x:Value),caps[i]?=some s->cv[i]?=some x->O7 Z w (I5 os) Eo s x:=by
  generalize a.eval fo=y at hfv;rcases hfs with hfs|⟨cs,hfs,hcs⟩
  .subst hfs;cases hfv with
   |V4 _ _ vs _ hl hh=>exact⟨vs,rfl,hl,hh⟩
  .subst hfs;subst hcs;cases hfv with
   |c _ _ hr=>
    cases hr with
    |fn _ _ vs hl hh=>
     refine⟨vs,rfl,by simpa using hl,λi s x h1 h2=>?_⟩;rw[P9]at h1;cases hk:cs[i]? with
     |none=>grind
     |some c0=>rw[hk]at h1;simp at h1;subst h1;exact .c _ _ (hh i c0 x hk h2)
 obtain⟨cv,hcv,hcl,hcr⟩:=hcap;have hal:l7.length=c.args.toList.length:=by grind
 have BX:=h Z w Eo (c.args.toList.map a.eval++cv) hg hz (by simp;simp at hal;omega) (λi s x h1 h2=>by
  rcases fJ i l7.length with hlt|hge
  .rw[dX hlt]at h1;rw[dX (by simp;simp at hal;omega),P9]at h2;cases hk:c.args.toList[i]? with
   |none=>grind
   |some op=>
    rw[hk]at h2;simp at h2;subst h2;refine hargs (i+1) s op (by simpa using h1) ?_
    grind
  .rw[dN hge]at h1;rw[dN (by simp;simp at hal;omega)]at h2;simp only[X0]at h2;rw[<-hal]at h2
   exact hcr _ s x h1 h2) hgs
 have wW:c.args.map a.eval++cv.toArray=((c.args.toList.map a.eval)++cv).toArray:=by grind
 have hrun:(execOp a.eval ⟨dst,.call c,type,pos,after,guard⟩).run P w=.ok (.enter f (c.args.toList.map a.eval++cv).toArray) w:=by
  simp only[execOp,resolve,hc,Deferred.ofValue,hcv,invoke,callFunc,J6,U5,O8,Array.empty_append,wW];have hnm':¬(fn.name= "runtime.NumGoroutine"):=by grind
  have wX:¬(fn.body=none):=λe=>by grind
  simp[Go.program,Sem.run,hfn,hnm',wX]
 refine QS (λ_ h=>nomatch h) ?_;unfold Oper.wp;rw[hrun];simp only[Oper.upon];refine BX.mono ?_
 grind
end
def iF:J8:=λ_=>(0,.none)
def HY:List SV->Nat->SV
 |[],_=>.any
 |c::_,0=>c
 |_::r,t+1=>HY r t
def kG(j:Nat):Nat:=sig 0 (65536+j)
def qG(mv:O1)(j:Nat):Nat:=bif mv.any (Nat.beq j)then sig 0 (32768+j)else kG j
def az6(mv:List Nat):Nat->Nat->List (Nat×Nat)
 |_,0=>[]
 |k,n+1=>(qG mv k,0)::az6 mv (k+1) n
abbrev rV(mv:O1)(n:Nat):dU:=az6 mv 0 n
def bd0{mv:O1}:∀(n k i:Nat),i<n->(az6 mv k n)[i]?=some (qG mv (k+i),0)
 |0,_,_,h=>absurd h (Nat.not_lt_zero _)
 |n+1,k,0,_=>rfl
 |n+1,k,i+1,h=>by
  simp only[az6,List.getElem?_cons_succ];rw[bd0 n (k+1) i (by omega),show k+1+i=k+(i+1) by omega]
def ap0(mv:O1)(args:dG)(os:Y0):St:=⟨λt=>zF iF 0 65536 (rV mv os.length) (HY args t),upd iF (aZ iF 0 65536 (rV mv os.length) 0 os)⟩
def sZ(γ:O1)(j:Nat):Nat:=γ.getD j 1
def ap8(n:Nat)(ρ:dU)(γ:O1):Bool:=
 (List.range ρ.length).all λj=> !(Nat.beq (sZ γ j) 0) || (Nat.blt j n&&(match ρ[j]? with|some (t,g)=>Nat.beq t (kG j)&&Nat.beq g 0|.none=>false))
def clr:SV->SV
 |.kt=>.c (.v (.bool true))
 |.kf=>.c (.v (.bool false))
 |.ap _ _ sz es=>.c (.sl sz es)
 |s=>s
def bp5{Z:Zone}{w:World}{obj:J8}{E:Q8}{s:SV}{x:Value}(h:O7 Z w obj E s x):O7 Z w obj E (clr s) x:=by
 cases h with
 |kt=>exact .c _ _ (.v _)
 |kf=>exact .c _ _ (.v _)
 |ap _ _ _ _ _ h _ _=>exact .c _ _ h
 |any=>exact .any _
 |un=>exact .un
 |c _ _ h=>exact .c _ _ h
 |pm t g off x hs hg h=>exact .pm t g off x hs hg h
 |V4 f caps vs hf hl h=>exact .V4 f caps vs hf hl h
 |rs t g x hs hg h=>exact .rs t g x hs hg h
 |aY cs vs hl h ha=>exact .aY cs vs hl h ha
 |fC cs vs hl h ha=>exact .fC cs vs hl h ha
 |pe t g n off x hg h=>exact .pe t g n off x hg h
 |mr t g x hs hg h=>exact .mr t g x hs hg h
def svC:SV->Option CV
 |.c c=>bif c.atom then some c else .none
 |.rs t g=>some (.rs t g)
 |.mr t g=>some (.mr t g)
 |.pm t g off=>some (.pr t g off)
 |_=>.none
def PG(st:St):List ResultVar->Option (List CV)
 |[]=>some []
 |.tmp t::r=>match svC (clr (st.env t)),PG st r with
  |some c,some cs=>some (c::cs)
  |_,_=>.none
 |_::_=>.none
def dt9{Z:Zone}{w:World}{obj:J8}{E:Q8}{s:SV}{x:Value}{c:CV}(h:O7 Z w obj E s x)(hc:svC s=some c):Z5 Z w obj E c x/\c.atom=true:=by
 cases h with
 |c c' x h=>
  simp only[svC]at hc;cases ha:c'.atom with
  |true=>rw[ha]at hc;simp at hc;subst hc;exact⟨.one (.cl h),ha⟩
  |false=>grind
 |rs t g x hs hg h=>simp only[svC,aQ]at hc;subst hc;exact⟨.one (.rs t g x hs hg h),rfl⟩
 |mr t g x hs hg h=>simp only[svC,aQ]at hc;subst hc;exact⟨.one (.mr t g x hs hg h),rfl⟩
 |pm t g off x hs hg h=>simp only[svC,aQ]at hc;subst hc;exact⟨.one (.pr t g off x hs hg h),rfl⟩
 |_=>simp[svC]at hc
def aI8(T:Tab)(st:St)(rs:List ResultVar)(ρ:List (Nat×Nat))(γ:Nat->Nat):Option SV:=
 match rs with
 |[.tmp t]=>sTo ρ γ (clr (st.env t))
 |[.cell x t]=>match T.get t,st.env x with
  |some i,.pm s g off=>match st.obj s with
   |(g',.var cs)=>bif Nat.beq g g' then(part i cs off).map SV.c else .none
   |_=>.none
  |_,_=>.none
 |rs=>match kJ T st rs with
  |some cs=>some (.c (.U6 cs))
  |.none=>match PG st rs with
   |some cs=>(iM ρ γ cs).map SV.fC
   |.none=>.none
def bF(T:Tab)(rs:sH)(n:Nat)(r:SV)(os':Y0)(st:St):Prop:=
 ∃(ρ:dU) (γ:O1),(qC (ρ.map (·.1))&&Nat.ble n ρ.length&&ap8 n ρ γ)=true/\rG ρ (sZ γ) st.obj 0 ρ=some os'/\aI8 T st rs ρ (sZ γ)=some r
def ZA(T:Tab)(rs:sH)(n:Nat)(mv:O1)(r:SV)(os':Y0)(st:St):Prop:=
 ∃(ρ:dU) (γ:O1),(qC (ρ.map (·.1))&&Nat.ble n ρ.length&&ap8 n ρ γ&&(List.range ρ.length).all λj=> !(Nat.beq (sZ γ j) 0) || !(mv.any (Nat.beq j)))=true/\rG ρ (sZ γ) st.obj 0 ρ=some os'/\aI8 T st rs ρ (sZ γ)=some r
def br7(T:Tab)(rs:List ResultVar)(n:Nat)(mv:List Nat)(r:SV)(os':List (Nat×G8))(e:Exit)(st:St):Prop:=
 match e with
 |.ret=>ZA T rs n mv r os' st
 |.normal=>ZA T rs n mv r os' st
 |_=>False
def cC5(T:Tab)(rs:List ResultVar)(n:Nat)(r:SV)(os':List (Nat×G8))(e:Exit)(st:St):Prop:=
 match e with
 |.ret=>bF T rs n r os' st
 |.normal=>bF T rs n r os' st
 |_=>False
def ad9(j:Nat):Nat.blt (kG j) PIN=false:=by
 cases hb:Nat.blt (kG j) PIN with
 |false=>rfl
 |true=>
  have:=fA hb;unfold kG sig PIN at this;omega
def dm6{mv:O1}{n i j:Nat}(hn:n<32768)(hi:i<n)(hj:j<n)(h:qG mv i=qG mv j):i=j:=by
 unfold qG at h;cases NJ:mv.any (Nat.beq i)<;>cases hmj:mv.any (Nat.beq j)<;>rw[NJ,hmj]at h<;>simp only[H9,G6,kG,sig]at h<;>omega
def AU{mv:O1}{n j:Nat}(hj:j<n):V8 0 65536 (rV mv n) j=qG mv j:=by
 unfold V8;rw[bd0 n 0 j hj,X9]
def SA{mv:O1}{n j:Nat}(k:Nat)(hj:j<n):dY iF 0 65536 (rV mv n) j k=k:=by
 unfold dY;rw[bd0 n 0 j hj]
 grind
def bI6{mv:O1}{n:Nat}(hn:n<32768):∀(os:Y0)(k:Nat),k+os.length<=n->qC ((aZ iF 0 65536 (rV mv n) k os).map (·.1))=true
 |[],_,_=>rfl
 |(g,o)::r,k,hk=>by
  simp only[sD]at hk;simp only[aZ,kP,qC];have:List.any ((aZ iF 0 65536 (rV mv n) (k+1) r).map (·.1)) (Nat.beq (V8 0 65536 (rV mv n) k))=false:=by
   rw[ET];intro x hx hb;have he:=G5 hb;obtain⟨i,hi⟩:=List.mem_iff_getElem?.1 hx;have hlt:i<r.length:=by
    have:=(P7.1 hi).1;simp only[X0]at this;have hl:∀(os:Y0)(k:Nat),(aZ iF 0 65536 (rV mv n) k os).length=os.length:=by
     intro os;induction os with
     |nil=>intro k;rfl
     |cons p q ih=>intro k;obtain⟨a,b⟩:=p;simp[aZ,ih]
    grind
   rw[QE r (k+1) i hlt]at hi;injection hi with hi
   rw[AU (by omega)]at hi he;have:=dm6 hn (by omega) (by omega) (he.trans hi.symm);omega
  rw[this];exact bI6 hn r (k+1) (by omega)
section
variable{P:Program}{G:aB}{T:Tab}
def aP5{Z:Zone}{w:World}{obj:J8}{E:Q8}:∀(args:dG)(vs:H6)(k:Nat),args.length=vs.length->(∀(i:Nat)(s:SV)(x:Value),args[i]?=some s->vs[i]?=some x->O7 Z w obj E s x)->
    ∀t,O7 Z w obj E (HY args t) ((vs++List.replicate k undef).getD t undef)
 |[],vs,k,hl,h,t=>.any _
 |s::r,[],k,hl,h,t=>by simp at hl
 |s::r,x::vs,k,hl,h,0=>h 0 s x rfl rfl
 |s::r,x::vs,k,hl,h,t+1=>by
  simpa[HY]using aP5 r vs k (by simpa using hl) (λi s x h1 h2=>h (i+1) s x (by simpa using h1) (by simpa using h2)) t
def aP4{n:Nat}:∀(args:dG),args.all (nX n)=true->∀t,nX n (HY args t)=true
 |[],_,_=>rfl
 |s::r,h,0=>by simp only[List.all_cons,Z4]at h;exact h.1
 |s::r,h,t+1=>by simp only[List.all_cons,Z4]at h;exact aP4 r h.2 t
def tZ(mv:O1)(os:Y0):J8:=upd iF (aZ iF 0 65536 (rV mv os.length) 0 os)
def oV(Eo:Q8):Nat->Value:=λs=>Eo (bif Nat.blt s PIN then s/65536-32768 else s/65536-65536)
def JA(os:Y0):Bool:=os.all (λo=>IW os.length o.2&&Nat.beq o.1 0)
def aW5{os:Y0}(h:JA os=true):∀(j g:Nat)(o:G8),os[j]?=some (g,o)->IW os.length o=true/\g=0:=λj g o hj=>by
 have:=yH h hj;simp only[Z4]at this;exact⟨this.1,G5 this.2⟩
def c99{os:Y0}(h:JA os=true)(j:Nat):(I5 os j).1=0:=by
 unfold I5;cases hj:os[j]? with
 |none=>rfl
 |some p=>exact(aW5 h j p.1 p.2 hj).2
def KL(Eo:Q8)(mv:O1){j:Nat}(hj:j<32768):oV Eo (qG mv j)=Eo j:=by
 unfold qG;cases mv.any (Nat.beq j)with
 |true=>
  have hlt:Nat.blt (sig 0 (32768+j)) PIN=true:=by
   have:sig 0 (32768+j)<PIN:=by unfold sig PIN;omega
   exact Nat.ble_eq_true_of_le this
  have he:sig 0 (32768+j)/65536-32768=j:=by unfold sig;omega
  simp only[H9,oV,hlt,he]
 |false=>
  have he:kG j/65536-65536=j:=by unfold kG sig;omega
  simp only[G6,oV,ad9,he]
def aV4{mv:O1}{os:Y0}(hn:os.length<32768):∀(j g:Nat)(o:G8),os[j]?=some (g,o)->tZ mv os (qG mv j)=(g,eG iF 0 65536 (rV mv os.length) o):=λj g o hj=>by
 have hlt:j<os.length:=(P7.1 hj).1;have:=bf5 (iF:=iF) os 0 j g o (bI6 (mv:=mv) hn os 0 (by omega)) hj;rw[X9,AU hlt,SA _ hlt]at this;exact this
def bL4(mv:O1)(os:Y0)(s:Nat):(∃j,j<os.length/\s=qG mv j)\/tZ mv os s=(0,.none):=by
 by_cases hs:∃j,j<os.length/\s=qG mv j
 .grind
 .exact .inr (bf6 (obj:=iF) (d:=0) (off:=65536) (τ:=rV mv os.length) (iF:=iF) os 0 s (λj hj=>by rw[X9,AU hj];exact λe=>hs ⟨j,hj,e⟩))
def aF1{mv:O1}{os:Y0}(hn:os.length<32768)(Eo:Q8):Back iF 0 65536 (rV mv os.length) os Eo (tZ mv os) (oV Eo):=⟨λj g o hj=>by
 have hlt:j<os.length:=(P7.1 hj).1
 exact⟨by rw[AU hlt,SA _ hlt];exact aV4 hn j g o hj,by rw[AU hlt];exact KL Eo mv (by omega)⟩⟩
def aV5{mv:O1}{os:Y0}(hn:os.length<32768){Eo:Q8}:∀s b,(tZ mv os s).2.blk (oV Eo s) b->∃j,j<os.length/\s=qG mv j/\(I5 os j).2.blk (Eo j) b:=λs b hb=>by
 rcases bL4 mv os s with⟨j,hj,rfl⟩|hs
 .refine⟨j,hj,rfl,?_⟩;have hoj:os[j]?=some (os[j].1,os[j].2):=J9 hj;rw[aV4 hn j _ _ hoj,KL Eo mv (by omega),bK6]at hb;unfold I5
  grind
 .grind
def bs5{mv:O1}{Z:Zone}{w:World}{os:Y0}{Eo:Q8}{n:Nat}{a:Act}{e:Nat->SV}(hg:uP Z w os Eo)(hz:∀b o,Z b o->b<w.heap.size)(hgs:∀w',Kept (SG w os Eo) w w'->G w')(hos:JA os=true)(hmv:os.length<32768)
    (hd:a.defers=[]) (hn:a.tmps.size=n) (hlt:∀t,nX os.length (e t)=true) (he:∀t,O7 Z w (I5 os) Eo (e t) (a.tmps.getD t undef)):
    Inv G ⟨Z,tZ mv os,oV Eo⟩ w (SG w os Eo) n Z (oV Eo) ⟨λt=>zF iF 0 65536 (rV mv os.length) (e t),tZ mv os⟩ a w:=
 { gs:=hgs
   slt:=λ_ h=>h.1
   below:=Kept.refl _ _
   defers:=by rw[hd];trivial
   sz:=hn
   X5:=hz
   keeps:=Keeps.refl _ _
   pin:=zX.refl _ _
   iH:=λ_ _ h=>.inl h
   env:=λt=>(he t).back (aF1 hmv Eo) (hlt t)
   obj:=λs=>by
    show X7 Z w (tZ mv os) (oV Eo) (oV Eo s) (tZ mv os s).2;rcases bL4 mv os s with⟨j,hj,rfl⟩|hs
    .have hoj:os[j]?=some (os[j].1,os[j].2):=J9 hj;rw[aV4 hmv j _ _ hoj,KL Eo mv (by omega)];have:=hg.ok j;unfold I5 at this;rw[hoj]at this;exact this.back (aF1 hmv Eo) (aW5 hos j _ _ hoj).1
    .rw[hs];trivial
   own:=λs b hb=>by
    obtain⟨j,_,_,hj⟩:=aV5 hmv s b hb;exact λh=>h.2 ⟨j,hj⟩
   apart:=λs s' b hne h1 h2=>by
    obtain⟨j,_,e1,hj⟩:=aV5 hmv s b h1;obtain⟨j',_,e2,hj'⟩:=aV5 hmv s' b h2
    exact hg.apart j j' b (λe=>hne (by rw[e1,e2,e])) hj hj' }
def bv9(mv:O1)(ρ:dU)(γ:O1):Bool:=(List.range ρ.length).all λj=> !(Nat.beq (sZ γ j) 0) || !(mv.any (Nat.beq j))
def bt9{mv:O1}{Z:Zone}{w:World}{os os':Y0}{Eo:Q8}{n:Nat}{Z':Zone}{E':Q8}{st':St}{a':Act}{w':World}{ρ:dU}{γ:O1}
    (hos:JA os=true) (hmv:os.length<32768) (hI':Inv G ⟨Z,tZ mv os,oV Eo⟩ w (SG w os Eo) n Z' E' st' a' w') (Y7:(qC (ρ.map (·.1))&&Nat.ble os.length ρ.length&&ap8 os.length ρ γ&&bv9 mv ρ γ)=true) (aa1:rG ρ (sZ γ) st'.obj 0 ρ=some os'):
    ∃Er,Match ρ (sZ γ) st'.obj E' (I5 os') Er/\∀r x,O7 Z' w' (I5 os') Er r x->rY Z w os Eo Z' w' os' Er r x:=by
 have dT0:=aW5 hos;have ZU:=c99 hos;have B:=aF1 (mv:=mv) hmv Eo;simp only[Z4]at Y7;obtain⟨⟨⟨hnd,hlen⟩,cL9⟩,cM0⟩:=Y7;have hlen:=I8 hlen;obtain⟨hol,hoa⟩:=aW6 aa1
 let Er:Nat->Value:=λj=>match ρ[j]? with|some (t,_)=>E' t|none=>undef
 have hEr:∀j t g,ρ[j]?=some (t,g)->Er j=E' t:=λj t g h=>by grind
 have M:Match ρ (sZ γ) st'.obj E' (I5 os') Er:=⟨λj t g hj=>by
  obtain⟨h1,o',h2,h3⟩:=hoa j t g hj;rw[X9]at h3
  exact⟨h1,o',h2,by unfold I5;rw[h3],hEr j t g hj⟩⟩
 have hnone:∀j,ρ[j]?=none->I5 os' j=(0,.none):=λj hj=>by
  have:os'[j]?=none:=uQ (by rw[hol];exact ak6.1 hj);unfold I5;rw[this]
 have hb':∀j b,(I5 os' j).2.blk (Er j) b->∃t g,ρ[j]?=some (t,g)/\(st'.obj t).2.blk (E' t) b:=λj b hb=>by
  cases hj:ρ[j]? with
  |none=>grind
  |some p=>
   obtain⟨t,g⟩:=p;obtain⟨h1,o',h2,h3,h4⟩:=M.at_ j t g hj;rw[h3,h4,bK9 h2]at hb
   grind
 have CB:∀j o,I5 os' j=(0,o)->o≠.none->qG mv j=kG j/\j<os.length/\ρ[j]?=some (kG j,0)/\Er j=E' (kG j)/\(st'.obj (kG j)).1=0/\gY ρ (sZ γ) (st'.obj (kG j)).2=some o:=λj o ho hne=>by
  cases hj:ρ[j]? with
  |none=>grind
  |some p=>
   obtain⟨t,g⟩:=p;obtain⟨h1,o',h2,h3,h4⟩:=M.at_ j t g hj;rw[h3]at ho;simp only[dR]at ho;obtain⟨hg0,rfl⟩:=ho;have hc:=oW.1 cL9 j (List.mem_range.2 (P7.1 hj).1);rw[hg0,hj]at hc;simp only[Nat.beq_refl,fG,Bool.false_or,Z4]at hc;have e1:=G5 hc.2.1;have e2:=G5 hc.2.2;subst e1;subst e2;have hm:=oW.1 cM0 j (List.mem_range.2 (P7.1 hj).1);rw[hg0]at hm;simp only[Nat.beq_refl,fG,Bool.false_or]at hm;have bA5:qG mv j=kG j:=by
    unfold qG;cases hq:mv.any (Nat.beq j)with
    |true=>grind
    |false=>rfl
   exact⟨bA5,fA hc.1,rfl,h4,h1,h2⟩
 have hpost:∀r x,O7 Z' w' (I5 os') Er r x->rY Z w os Eo Z' w' os' Er r x:=λr x hx=>
  { res:=hx
    grp:=⟨λj=>by
       cases hj:ρ[j]? with
       |none=>rw[hnone j hj];trivial
       |some p=>
        obtain⟨t,g⟩:=p;obtain⟨h1,o',h2,h3,h4⟩:=M.at_ j t g hj;rw[h3,h4];exact(hI'.obj t).tOz M h2,
     λj j' b hne h1 h2=>by
      obtain⟨t,g,q1,q2⟩:=hb' j b h1;obtain⟨t',g',q3,q4⟩:=hb' j' b h2;refine hI'.apart t t' b (λe=>hne ?_) q2 q4;refine as9 hnd j j' t ?_ ?_
      .grind
      .rw[P9,q3,e];rfl⟩
    keeps:=hI'.keeps
    X5:=hI'.X5
    iH:=λb o hz=>by
     rcases hI'.iH b o hz with h|h
     .exact .inl h
     .by_cases hlt:b<w.heap.size
      .by_cases hgb:GB os Eo b
       .grind
       .exact absurd ⟨hlt,hgb⟩ h
      .grind
    kept:=hI'.below
    own:=λb ⟨j,hj⟩=>by
     obtain⟨t,g,q1,q2⟩:=hb' j b hj;have h:=hI'.own t b q2;by_cases hlt:b<w.heap.size
     .by_cases hgb:GB os Eo b
      .grind
      .exact absurd ⟨hlt,hgb⟩ h
     .grind
    ok:=
     { gen:=λt=>by rw[ZU];exact aF _
       var:=λt g hg hl=>by
        rw[ZU]at hg;have:g=0:=Nat.le_zero.1 hg;subst this;obtain⟨cs,hl⟩:=hl;have:∃o,I5 os' t=(0,o)/\o≠.none/\(o=.var cs\/o=.ro cs\/o=.varx cs):=by grind
        obtain⟨o,q1,q2,q3⟩:=this;obtain⟨p0,p1,p2,p3,p4,p5⟩:=CB t o q1 q2;obtain⟨cs0,q6⟩:=bL2 p5 q3;have hlv:live st'.obj (kG t) 0:=by
         refine⟨cs0,?_⟩
         grind
        obtain⟨r1,r2⟩:=hI'.pin.var _ (ad9 t) hlv;refine⟨?_,by rw[p3,r2,<-p0];exact KL Eo mv (by omega)⟩;have:=B.live (k:=0) p1 (by rw[AU p1,SA _ p1,p0];exact r1);exact this
       tok:=λt g el s hg hl=>by
        rw[ZU]at hg;have:g=0:=Nat.le_zero.1 hg;subst this;obtain⟨p0,p1,p2,p3,p4,p5⟩:=CB t _ hl (by simp);obtain⟨r1,r2⟩:=hI'.pin.tok _ el s (ad9 t) (Prod.ext p4 (bL1 p5 rfl));exact⟨B.tok p1 (by rw[AU p1,SA _ p1,p0];exact r1),by rw[p3,r2,<-p0];exact KL Eo mv (by omega)⟩
       arr:=λt g el sz ds D7 hg hl=>by
        rw[ZU]at hg;have:g=0:=Nat.le_zero.1 hg;subst this;obtain⟨p0,p1,p2,p3,p4,p5⟩:=CB t _ hl (by simp);obtain⟨f0,q6⟩:=bK8 p5 rfl;obtain⟨⟨ds1,f1,r1⟩,r2⟩:=hI'.pin.arr _ el sz ds f0 (ad9 t) (Prod.ext p4 q6);obtain⟨f2,r3⟩:=B.arr p1 (by rw[AU p1,SA _ p1,p0];exact r1);exact⟨⟨ds1,f2,r3⟩,by rw[p3,r2,<-p0];exact KL Eo mv (by omega)⟩
       map:=λt g es hg hl=>by
        rw[ZU]at hg;have:g=0:=Nat.le_zero.1 hg;subst this;obtain⟨p0,p1,p2,p3,p4,p5⟩:=CB t _ hl (by simp);obtain⟨⟨es0,r1⟩,r2⟩:=hI'.pin.map _ es (ad9 t) (Prod.ext p4 (bL0 p5 rfl))
        exact⟨⟨es0,B.map p1 (by rw[AU p1,SA _ p1,p0];exact r1)⟩,by rw[p3,r2,<-p0];exact KL Eo mv (by omega)⟩ }}
 grind
def bS5{G:aB}{Z0:Base}{w0:World}{S:U2}{n:Nat}{Z:Zone}{E:Q8}{st:St}{a:Act}{w:World}(hI:Inv G Z0 w0 S n Z E st a w):∀(rs:sH)(cs:G9),PG st rs=some cs->
    ∃vs,(rs.mapM (rJ a)).run P w=.ok vs w/\vs.length=rs.length/\cs.length=vs.length/\(∀(i:Nat)(c:CV)(x:Value),cs[i]?=some c->vs[i]?=some x->Z5 Z w st.obj E c x)/\∀(i:Nat)(c:CV),cs[i]?=some c->c.atom=true
 |[],cs,h=>by simp[PG]at h;subst h;exact⟨[],by simp,rfl,rfl,λi c x h1=>by simp at h1,λi c h1=>by simp at h1⟩
 |.tmp t::rs,cs,h=>by
  simp only[PG]at h;split at h
  .rename_i c cs' h1 h2;simp at h;subst h;obtain⟨hr,ha⟩:=dt9 (bp5 (hI.env t)) h1;obtain⟨vs,q1,q2,q3,q4,q5⟩:=bS5 hI rs cs' h2;refine⟨a.tmps.getD t undef::vs,?_,by simp[q2],by simp[q3],λi c x h1 h2=>?_,λi c h1=>?_⟩
   .simp only[List.mapM_cons,J6,rJ,U5,O8,q1]
   .grind
   .grind
  .simp at h
 |.cell _ _::_,cs,h=>by simp[PG]at h
def cD8(mv:O1)(hT:aA P T)(hm:P.follows .mixedOrders=true){f:FuncId}{fn:Func}{code:Code}{args:dG}{os os':Y0}{r:SV}(hf:P.funcs[f]?=some fn)(hname:(fn.name== "runtime.NumGoroutine")=false)(hb:fn.body=some code)(hn:args.length<=fn.ntmps)
    (hok:(JA os&&args.all (nX os.length)&&Nat.blt os.length 32768)=true)
    (h:eP (jF P G) T fn.ntmps code (br7 T fn.results.toList os.length mv r os') (ap0 mv args os)):gI P G f args os r os':=by
 refine⟨⟨fn,hf,hname,by rw[hb];rfl⟩,?_⟩;intro Z w Eo vs hg hz hl hargs hgs;simp only[Z4]at hok;obtain⟨⟨hos,has⟩,hmv⟩:=hok;have hmv:=fA hmv;refine SE.1 (callsIn_of_wp_marks (F:=eU none) (n:=0) hf hb trivial ?_);have hvl:vs.length<=fn.ntmps:=by grind
 have hI:Inv G ⟨Z,tZ mv os,oV Eo⟩ w (SG w os Eo) fn.ntmps Z (oV Eo) (ap0 mv args os) { tmps:=vs.toArray++Array.replicate (fn.ntmps-vs.toArray.size) undef,defers:=[] } w:=
  bs5 (e:=HY args) hg hz hgs hos hmv rfl (by simp;omega) (aP4 args has) λt=>by
   have he:(vs.toArray++Array.replicate (fn.ntmps-vs.toArray.size) undef)=(vs++List.replicate (fn.ntmps-vs.length) undef).toArray:=by grind
   simp only[he];have hg':(vs++List.replicate (fn.ntmps-vs.length) undef).toArray.getD t undef=(vs++List.replicate (fn.ntmps-vs.length) undef).getD t undef:=by
    simp[bY,RG]
   rw[hg'];exact aP5 args vs _ hl hargs t
 refine aC5 hT hm code (.inl rfl) (λe Z' E' st' a' w' hk hI'=>?_) Z _ _ _ w hI h;have fin:∀w',Inv G ⟨Z,tZ mv os,oV Eo⟩ w (SG w os Eo) fn.ntmps Z' E' st' { a' with defers:=[] } w'->ZA T fn.results.toList os.length mv r os' st'->∃v,(results fn a'.tmps).run P w'=.ok v w'/\∃x gU bZ,Ending.returned v=.returned x/\rY Z w os Eo gU w' os' bZ r x:=by
  rintro w' hI' ⟨ρ,γ,Y7,aa1,hres⟩;obtain⟨Er,M,hpost⟩:=bt9 hos hmv hI' Y7 aa1;have closed:∀(v:Value)(c:CV),(results fn a'.tmps).run P w'=.ok v w'->Rep Z' w' c v->r=.c c->∃v,(results fn a'.tmps).run P w'=.ok v w'/\∃x gU bZ,Ending.returned v=.returned x/\rY Z w os Eo gU w' os' bZ r x:=
   λv c hv hr he=>⟨v,hv,v,Z',Er,rfl,hpost _ v (he▸ .c _ _ hr)⟩
  unfold aI8 at hres;split at hres
  .rename_i t hrs;refine⟨a'.tmps.getD t undef,WC hrs rfl,_,Z',Er,rfl,hpost _ _ ((bp5 (hI'.env t)).tOz M hres)⟩
  .rename_i x t hrs;have hv:∃c,r=.c c/\DV T st' (.cell x t)=some c:=by
    clear closed hpost hk h;simp only[DV];split at hres
    .rename_i i s g off hT' hpm;rw[hT',hpm];split at hres
     .rename_i g' cs aN5;simp only[aN5];cases hbq:Nat.beq g g' with
      |true=>
       rw[hbq]at hres;simp only[H9]at hres⊢;cases hp:part i cs off with
       |none=>grind
       |some c=>grind
      |false=>grind
     .simp at hres
    .simp at hres
   obtain⟨c,hrc,hv⟩:=hv;obtain⟨v,hv',hr⟩:=aZ6 hT hI' (r:=c) (by rw[hrs];exact hv)
   grind
  .rename_i hne1 hne2;cases ha:kJ T st' fn.results.toList with
   |none=>
    rw[ha]at hres;simp only at hres;cases hs:PG st' fn.results.toList with
    |none=>grind
    |some cs=>
     rw[hs]at hres;simp only at hres;cases hkk:iM ρ (sZ γ) cs with
     |none=>grind
     |some cs'=>
      rw[hkk]at hres;simp at hres;subst hres;obtain⟨vs,q1,q2,q3,q4,q5⟩:=bS5 (P:=P) hI' fn.results.toList cs hs;obtain⟨k1,k2⟩:=SQ hkk;have hne:vs.length≠1:=λe=>by
       rw[q2]at e;obtain⟨rv,jD⟩:=List.length_eq_one_iff.1 e;cases rv with
       |tmp t=>grind
       |cell y t=>grind
      refine⟨_,aZ5 q1 hne,_,Z',Er,rfl,hpost _ _ (.fC cs' vs (k1.trans q3) (λi c' x h1 h2=>?_) (λi c' h1=>?_))⟩
      .obtain⟨c,h3,h4⟩:=k2 i c' h1;exact(q4 i c x h3 h2).tOz M h4
      .obtain⟨c,h3,h4⟩:=k2 i c' h1;rw[YI h4];exact q5 i c h3
   |some cs=>
    rw[ha]at hres;simp at hres;have hv:ae7 T st' fn.results.toList=some (.U6 cs):=by
     unfold ae7;split
     .rename_i x hx;cases x with
      |tmp t=>grind
      |cell y t=>grind
     .rw[ha];rfl
    obtain⟨v,hv',hr⟩:=aZ6 hT hI' hv
    grind
 cases e with
 |normal=>exact ab8 a'.defers a' w' rfl hI' λw2 hI2=>fin w2 hI2 hk
 |ret=>exact ab8 a'.defers a' w' rfl hI' λw2 hI2=>fin w2 hI2 hk
 |exit id=>exact hk.elim
 |goto l=>exact hk.elim
 |panic ch=>exact hk.elim
 |outgrown=>exact hk.elim
def bs1(mv:O1)(hT:aA P T)(hm:P.follows .mixedOrders=true){f:FuncId}{fn:Func}{code:Code}{args:dG}{os os':Y0}{r:SV}(hf:P.funcs[f]?=some fn)(hname:(fn.name== "runtime.NumGoroutine")=false)(hb:fn.body=some code)(hn:args.length<=fn.ntmps)
    (hok:(JA os&&args.all (nX os.length)&&Nat.blt os.length 32768)=true)
    (h:dW (jF P G) T fn.ntmps code (br7 T fn.results.toList os.length mv r os') (ap0 mv args os)):gI P G f args os r os':=by
 rw[oQ]at h;exact cD8 mv hT hm hf hname hb hn hok h
abbrev cE5(args:dG)(os:Y0):St:=ap0 [] args os
def vF(hT:aA P T)(hm:P.follows .mixedOrders=true){f:FuncId}{fn:Func}{code:Code}{args:dG}{os os':Y0}{r:SV}(hf:P.funcs[f]?=some fn)(hname:(fn.name== "runtime.NumGoroutine")=false)(hb:fn.body=some code)(hn:args.length<=fn.ntmps)
    (hok:(JA os&&args.all (nX os.length)&&Nat.blt os.length 32768)=true)
    (h:dW (jF P G) T fn.ntmps code (cC5 T fn.results.toList os.length r os') (cE5 args os)):gI P G f args os r os':=by
 refine bs1 [] hT hm hf hname hb hn hok ?_;rw[oQ]at h⊢;refine aC4 code (λe st h=>?_) _ h
 have key:bF T fn.results.toList os.length r os' st->ZA T fn.results.toList os.length [] r os' st:=λ⟨ρ,γ,h1,h2,h3⟩=>⟨ρ,γ,by
  simp only[Z4]at h1⊢
  exact⟨h1,by simp⟩,h2,h3⟩
 cases e with
 |normal=>exact key h
 |ret=>exact key h
 |exit id=>exact h.elim
 |goto l=>exact h.elim
 |panic ch=>exact h.elim
 |outgrown=>exact h.elim
end
end Go.F7
namespace Go.F7
open Go Go.RowKit
def XU(P:Program)(G:aB)(l:Nat)(R:Loop)(env l7:dG)(os:Y0)(r:SV)(os':Y0):Prop:=
 ∀(Z:Zone)(w:World)(Eo:Q8)(vs:H6),uP Z w os Eo->(∀b o,Z b o->b<w.heap.size)->l7.length=vs.length->
  (∀(i:Nat)(s:SV)(x:Value),l7[i]?=some s->vs[i]?=some x->O7 Z w (I5 os) Eo s x)->env.length=R.tmps.size->
  (∀(i:Nat)(s:SV)(x:Value),env[i]?=some s->R.tmps.toList[i]?=some x->O7 Z w (I5 os) Eo s x)->(∀w',Kept (SG w os Eo) w w'->G w')->
  RoundIn (eU none) 0 P l R.fn ((R.params.zip vs.toArray).foldl (λtmps (t,a)=>tmps.setIfInBounds t a) R.tmps) R.assign R.body w λe w'=>∃x Z' bZ,e=.returned x/\rY Z w os Eo Z' w' os' bZ r x
section
variable{P:Program}{G:aB}{T:Tab}
def ZE{c:Call}{ty:TypeId}{fo:Operand}(hc:c.callee=.value fo){l:Nat}{R:Loop}{env l7:dG}{os os':Y0}{r:SV}(i0:Nat)(hi0:os[i0]?=some (0,.lp l R .on))(hps:l7.length=R.params.size)
    (h:XU P G l R env l7 os r os'):fD P G (.call c) ty (.V4 (.yl l R.tmps.toList) env::l7) os r os':=by
 intro Z w Eo a o next Q ho hty hg hz hl hargs hgs hnext
 obtain⟨dst,op,type,pos,after,guard⟩:=o;simp only at ho hty;subst ho;subst hty;have hops:(Op.call c).operands=#[fo]++c.args:=by simp[Op.operands,Call.operands,hc]
 rw[hops]at hl hargs;have hfv:=hargs 0 _ fo rfl (by rw[QX (Nat.zero_lt_one)];rfl);have hcv:a.eval fo=.func (.yield l) #[] #[]/\env.length=R.tmps.toList.length/\∀(i:Nat)(s:SV)(x:Value),env[i]?=some s->R.tmps.toList[i]?=some x->O7 Z w (I5 os) Eo s x:=by
  generalize a.eval fo=y at hfv;cases hfv with
  |V4 _ _ vs hf hl hh=>
   have hv:vs=R.tmps.toList:=hf;subst hv;exact⟨rfl,hl,hh⟩
 obtain⟨hcv,hel,henv⟩:=hcv;have hrec:=hg.ok i0;have ho0:I5 os i0=(0,.lp l R .on):=by unfold I5;rw[hi0]
 rw[ho0]at hrec;obtain⟨hL,_⟩:=hrec;have hal:l7.length=c.args.toList.length:=by grind
 have hrnd:=h Z w Eo (c.args.toList.map a.eval) hg hz (by simpa using hal) (λi s x h1 h2=>by
  rw[P9]at h2;cases hk:c.args.toList[i]? with
  |none=>grind
  |some op=>
   rw[hk]at h2;simp at h2;subst h2;refine hargs (i+1) s op (by simpa using h1) ?_;rw[Array.getElem?_append_right (by simp)]
   simpa using hk) (by simpa using hel) henv hgs
 have wW:c.args.map a.eval=(c.args.toList.map a.eval).toArray:=by grind
 have hy:=run_yield (P:=P) (args:=(c.args.toList.map a.eval).toArray) hL (by simp[lF.put];simpa using hal.symm.trans hps);have hrun:(execOp a.eval ⟨dst,.call c,type,pos,after,guard⟩).run P w=.ok (.round l R.fn ((R.params.zip (c.args.toList.map a.eval).toArray).foldl (λtmps (t,a)=>tmps.setIfInBounds t a) R.tmps) R.assign R.body) w:=by
  simp only[execOp,resolve,hc,Deferred.ofValue,hcv,invoke,J6,U5,O8,Array.empty_append,wW];exact hy
 intro ρ;refine⟨λ_ _=>trivial,?_⟩;rw[Oper.semAt_eq _ _ (⟨dst,.call c,type,pos,after,guard⟩:Oper) (λ_ h=>nomatch h),hrun];refine⟨λh=>absurd h (by simp[Fence.wide]),?_⟩;refine RoundIn.mono (F:=eU ρ) (n:=0) hrnd ?_
 grind
def zB:Code->List (Array Nat×Code×Code)
 |.rangeFunc _ ps x y=>[(ps,x,y)]
 |.seq a b=>zB a++zB b
 |.cond _ a b=>zB a++zB b
 |.block _ a=>zB a
 |.loop a=>zB a
 |.scope a=>zB a
 |_=>[]
def oI(l:List (Nat×SV)):Nat->Nat->List SV
 |0,_=>[]
 |k+1,t=>xC l t::oI l k (t+1)
def aD7(e:Nat->SV):List (Nat×SV)->Prop
 |[]=>True
 |(t,s)::r=>s=e t/\aD7 e r
def bG7{e:Nat->SV}:∀{l:FD},aD7 e l->∀t,xC l t=.any\/xC l t=e t
 |[],_,_=>.inl rfl
 |(k,s)::r,⟨h1,h2⟩,t=>by
  simp only[xC];cases hb:Nat.beq k t with
  |true=>have:=G5 hb;subst this;exact .inr h1
  |false=>exact bG7 h2 t
def ap2{e:Nat->SV}{l:FD}(h:aD7 e l):∀k t,ap1 e t (oI l k t)
 |0,_=>trivial
 |k+1,t=>⟨bG7 h t,ap2 h k (t+1)⟩
def af8:List Nat->List SV->(Nat->SV)->Nat->SV
 |p::ps,s::ss,e=>af8 ps ss (λt=>bif Nat.beq p t then s else e t)
 |_,_,e=>e
def bU0(mv:O1)(ps:O1)(l7 env:dG)(os:Y0):St:=⟨λt=>zF iF 0 65536 (rV mv os.length) (af8 ps l7 (HY env) t),tZ mv os⟩
def bT8{n:Nat}:∀(ps:O1)(l7:dG)(e:Nat->SV),l7.all (nX n)=true->(∀t,nX n (e t)=true)->∀t,nX n (af8 ps l7 e t)=true
 |[],_,_,_,he,t=>he t
 |_::_,[],_,_,he,t=>he t
 |p::ps,s::ss,e,ha,he,t=>by
  simp only[List.all_cons,Z4]at ha;refine bT8 ps ss _ ha.2 (λt'=>?_) t;cases Nat.beq p t' with
  |true=>exact ha.1
  |false=>exact he t'
def bT9{Z:Zone}{w:World}{obj:J8}{E:Q8}{n:Nat}:∀(ps:O1)(l7:dG)(vs:H6)(e:Nat->SV)(tmps:S9),tmps.size=n->ps.all (λp=>Nat.blt p n)=true->l7.length=vs.length->
    (∀(i:Nat)(s:SV)(x:Value),l7[i]?=some s->vs[i]?=some x->O7 Z w obj E s x)->(∀t,O7 Z w obj E (e t) (tmps.getD t undef))->
    ∀t,O7 Z w obj E (af8 ps l7 e t) (((ps.zip vs).foldl (λ(tmps:S9) (p:Nat×Value)=>tmps.setIfInBounds p.1 p.2) tmps).getD t undef)
 |[],_,_,_,_,_,_,_,_,he,t=>he t
 |_::_,[],[],_,_,_,_,_,_,he,t=>he t
 |_::_,[],_::_,_,_,_,_,hl,_,_,_=>by simp at hl
 |_::_,_::_,[],_,_,_,_,hl,_,_,_=>by simp at hl
 |p::ps,s::ss,x::xs,e,tmps,hn,hp,hl,ha,he,t=>by
  simp only[List.all_cons,Z4]at hp;simp only[List.zip_cons_cons,List.foldl_cons];refine bT9 ps ss xs _ (tmps.setIfInBounds p x) (by simpa using hn) hp.2 (by simpa using hl) (λi s' x' h1 h2=>ha (i+1) s' x' (by simpa using h1) (by simpa using h2)) (λt'=>?_) t;have hlt:p<tmps.size:=by rw[hn];exact fA hp.1
  cases hb:Nat.beq p t' with
  |true=>
   have:=G5 hb;subst this;have:(tmps.setIfInBounds p x).getD p undef=x:=by simp[Array.getD,hlt]
   rw[this];exact ha 0 s x rfl rfl
  |false=>
   have hne:p≠t':=λh=>by subst h;simp at hb
   have:(tmps.setIfInBounds p x).getD t' undef=tmps.getD t' undef:=by
    rw[bY,bY,bi6 hne]
   grind
def DW(mv:O1)(i0 l:Nat)(R:Loop)(n:Nat)(r:SV)(os':Y0)(q:lF)(b:Bool)(st:St):Prop:=
 st.obj (kG i0)=(0,.lp l R .busy)/\r=.c (.v (.bool b))/\∃(ρ:dU) (γ:O1),(qC (ρ.map (·.1))&&Nat.ble n ρ.length&&ap8 n ρ γ&&bv9 mv ρ γ)=true/\
   rG ρ (sZ γ) (upd st.obj [(kG i0,(0,.lp l R q))]) 0 ρ=some os'
def dg5(mv:List Nat)(i0 l:Nat)(R:Loop)(n:Nat)(r:SV)(os':List (Nat×G8))(e:Exit)(st:St):Prop:=
 match e with
 |.normal=>DW mv i0 l R n r os' .on true st
 |.ret=>DW mv i0 l R n r os' (.off .ret) false st
 |.exit id=>DW mv i0 l R n r os' (.off (.exit id)) false st
 |_=>False
def dg4(H:jY)(T:Tab)(m:Nat)(body:Code)(mv:List Nat)(i0 l:Nat)(R:Loop)(n:Nat)(r:SV)(os':List (Nat×G8))(e:Exit)(st:St):Prop:=
 match e with
 |.normal=>st.obj (kG i0)=(0,.lp l R .on)/\dW H T m body (dg5 mv i0 l R n r os') ⟨st.env,upd st.obj [(kG i0,(0,.lp l R .busy))]⟩
 |_=>False
section
variable{Z0:Base}{w0:World}{S:U2}{n:Nat}{Z:Zone}{E:Q8}{st:St}{a:Act}{w:World}
def Inv.turn(hI:Inv G Z0 w0 S n Z E st a w){s g l:Nat}{R:Loop}{q:lF}(q':lF)(ho:st.obj s=(g,.lp l R q)):
    Inv G Z0 w0 S n Z E ⟨st.env,upd st.obj [(s,(g,.lp l R q'))]⟩ a (w.putObj l (.loop (q'.put R))):=by
 have hob:=hI.obj s;have hown:=hI.own s;rw[ho]at hob hown;obtain⟨hL,hz⟩:=hob;have hs4:upd st.obj [(s,(g,.lp l R q'))] s=(g,.lp l R q'):=wC _ _ _;have hn4:∀t,t≠s->upd st.obj [(s,(g,.lp l R q'))] t=st.obj t:=λt ht=>wB _ _ ht;have hoth:∀k,k≠l->(w.putObj l (.loop (q'.put R))).heap[k]?=w.heap[k]?:=λk hk=>jA hk;have:Inv G Z0 w0 S n Z E ⟨put st.env none .any,upd st.obj [(s,(g,.lp l R q'))]⟩ (a.put none undef) (w.putObj l (.loop (q'.put R))):=by
  refine hI.renew (·=s) (d:=none) (r:=.any) (x:=undef) rfl ?_ ?_ (λb o h=>by have:=hI.X5 b o h;simpa using this) (λ_ _ h=>.inl h) (λt ht=>⟨hn4 t ht,rfl⟩) ?_ ?_ ?_ ?_ ?_ (.any _)
  .refine⟨rfl,rfl,rfl,by simp,λk hk=>hoth k (λe=>hown l rfl (e▸hk)),λk hk=>(hoth k (λe=>?_)).trans hk⟩;rw[e,hL]at hk;exact nomatch hk
  .exact λb o hz'=>⟨hz',jM (hoth b (λe=>hz o (e▸hz')))⟩
  .rintro t rfl;rw[hs4,ho];exact .inr ⟨rfl,.inl (.inr ⟨_,_,_,rfl⟩)⟩
  .rintro _ t rfl;rw[hs4];exact⟨World.putObj_heap_same (X6.1 hL).1,hz⟩
  .intro t ht b' hb;have hne:b'≠l:=λe=>by
    subst e;exact hI.apart t s _ ht hb (by rw[ho]<;>rfl)
   grind
  .grind
  .grind
 exact this
end
def aJ2(mv:O1)(hT:aA P T)(hm:P.follows .mixedOrders=true){n l:Nat}{R:Loop}{ps:Array Nat}{ca cb:Code}{env l7:dG}{os os':Y0}{r:SV}(i0:Nat)
    (hp:R.params=ps) (hca:R.assign=ca) (hcb:R.body=cb) (hn:R.tmps.size=n)
    (hok:(JA os&&env.all (nX os.length)&&l7.all (nX os.length)&&ps.toList.all (λp=>Nat.blt p n)&&eF ca&&eF cb&&Nat.blt os.length 32768)=true)
    (h:dW (jF P G) T n ca (dg4 (jF P G) T n cb mv i0 l R os.length r os') (bU0 mv ps.toList l7 env os)):XU P G l R env l7 os r os':=by
 simp only[Z4]at hok;obtain⟨⟨⟨⟨⟨⟨hos,hev⟩,has⟩,hps⟩,hna⟩,hnb⟩,hmv⟩:=hok;have hmv:=fA hmv;intro Z w Eo vs hg hz hl hargs hel henv hgs;rw[hca,hcb,hp];have hfold:((ps.zip vs.toArray).foldl (λtmps (t,a)=>tmps.setIfInBounds t a) R.tmps)=(ps.toList.zip vs).foldl (λ(tmps:S9) (p:Nat×Value)=>tmps.setIfInBounds p.1 p.2) R.tmps:=by
  rw[<-zL,Array.toList_zip]
 rw[hfold];generalize htm:(ps.toList.zip vs).foldl (λ(tmps:S9) (p:Nat×Value)=>tmps.setIfInBounds p.1 p.2) R.tmps=tm;have cP2:∀(zs:List (Nat×Value))(t0:S9),(zs.foldl (λ(tmps:S9) (p:Nat×Value)=>tmps.setIfInBounds p.1 p.2) t0).size=t0.size:=by
  intro zs;induction zs with
  |nil=>grind
  |cons z zs ih=>grind
 have hI:Inv G ⟨Z,tZ mv os,oV Eo⟩ w (SG w os Eo) n Z (oV Eo) (bU0 mv ps.toList l7 env os) { tmps:=tm,defers:=[] } w:=
  bs5 (e:=af8 ps.toList l7 (HY env)) hg hz hgs hos hmv rfl (by rw[<-htm];rw[cP2];exact hn) (bT8 _ _ _ has (aP4 env hev)) λt=>by
   rw[<-htm];refine bT9 ps.toList l7 vs _ R.tmps hn hps hl hargs (λt=>?_) t;have:=aP5 env R.tmps.toList 0 (by simpa using hel) henv t;simpa[bY,RG]using this
 refine roundIn_of_wpIn trivial ?_;rw[oQ]at h;refine aC5 (ρ:=some l) hT hm ca (.inr hna) (λe Z' E' st' a' w' hk hI'=>?_) Z _ _ _ w hI h;cases e with
 |normal=>
  obtain⟨ho,hb⟩:=hk;have hL:=(hI'.obj (kG i0));rw[ho]at hL;have hbr:=run_beginRound (P:=P) hL.1 rfl;refine⟨_,hbr,?_⟩;have hI2:=hI'.turn .busy ho;rw[oQ]at hb;refine aC5 (ρ:=some l) hT hm cb (.inr hnb) (λe Z2 E2 st2 a2 w2 hk2 GV=>?_) Z' _ _ _ _ hI2 hb;have fin:∀(q:lF)(b:Bool)(jump:Option Code),b=jump.isNone->lF.put R q={ lF.put R .busy with state:=if jump.isNone then .ready else .done,pending:=jump }->DW mv i0 l R os.length r os' q b st2->
   ∃v w',(Instr.endRound l jump).run P w2=.ok v w'/\∃x gU bZ,Ending.returned v=.returned x/\rY Z w os Eo gU w' os' bZ r x:=by
   intro q b jump hbj hq ⟨ho2,hr,ρ,γ,Y7,aa1⟩;have hL2:=GV.obj (kG i0);rw[ho2]at hL2;have her:=run_endRound (P:=P) jump hL2.1;rw[<-hq]at her;obtain⟨Er,M,hpost⟩:=bt9 hos hmv (GV.turn q ho2) Y7 aa1;refine⟨_,_,her,_,Z2,Er,rfl,hpost r _ ?_⟩;rw[hr,hbj];exact .c _ _ (.v _)
  cases e with
  |normal=>exact fin .on true none rfl rfl hk2
  |ret=>exact fin (.off .ret) false (some .ret) rfl rfl hk2
  |exit id=>exact fin (.off (.exit id)) false (some (.exit id)) rfl rfl hk2
  |goto t=>exact hk2.elim
  |panic ch=>exact hk2.elim
  |outgrown=>exact hk2.elim
 |exit id=>exact hk.elim
 |goto t=>exact hk.elim
 |ret=>exact hk.elim
 |panic ch=>exact hk.elim
 |outgrown=>exact hk.elim
end
end Go.F7
namespace Go.F7
open Go Go.RowKit
def V5{α β:Type}[BEq α]:List (α×β)->α->Option β
 |[],_=>.none
 |p::r,x=>bif x==p.1 then some p.2 else V5 r x
def aU{α β:Type}[BEq α]:List (α×β)->α->β->List (α×β)
 |[],x,v=>[(x,v)]
 |p::r,x,v=>bif x==p.1 then(x,v)::r else p::aU r x v
structure zT{α:Type}[BEq α](d:TypeDesc)(kc:α->Value):Prop where
 key:∀a,MapKept.IsKey d (kc a)
 same:∀a b,Instr.sameNow d (kc a) (kc b)=some (a==b)
 bits:∀a b,(a==b)=true->Instr.sameBits 10000 (kc b) (kc a)=true
def NU(k:IntKind)(a:Int):Value:=.int k a
def Y3(s:mG):Value:=.string ⟨⟨s⟩⟩
def IG(k:IntKind):zT (.int k) (NU k) where
 key _:=rfl
 same a b:=by simp[Instr.sameNow,NU]
 bits a b h:=by simp at h;subst h;simp[Instr.sameBits,NU]
def YF(a b:mG):((⟨⟨a⟩⟩:ByteArray)==⟨⟨b⟩⟩)=(a==b):=by
 cases h:a==b with
 |true=>have:=mP h;subst this;exact(MapKept.bytes_beq _ _).2 rfl
 |false=>
  cases h':((⟨⟨a⟩⟩:ByteArray)==⟨⟨b⟩⟩)with
  |false=>rfl
  |true=>
   have:=(MapKept.bytes_beq _ _).1 h'
   grind
def vN:zT .string Y3 where
 key _:=trivial
 same a b:=by simp[Instr.sameNow,Y3,YF]
 bits a b h:=by have:=mP h;subst this;simp[Instr.sameBits,Y3,YF]
def bj4(Z:Zone)(w:World)(es:uV)(v:Value):Prop:=
 (v=.map none/\es=[])\/∃b arr clock,v=.map (some b)/\w.heap[b]?=some (.map arr clock)/\es.length=arr.size/\
   ∀(i:Nat)(k u:CV)(m:MapEntry),es[i]?=some (k,u)->arr[i]?=some m->Rep Z w k m.key/\Rep Z w u m.val
abbrev U9{α β:Type}(kc:α->Value)(ev:β->CV)(m:List (α×β)):uV:=m.map λp=>(CV.v (kc p.1),ev p.2)
section
variable{P:Program}{G:aB}{Z:Zone}{w:World}{α β:Type}[BEq α]{d:TypeDesc}{kc:α->Value}
def find_spec(hd:zT d kc)(x:α):∀(m:List (α×β))(l:yE)(n:Nat),m.length=l.length->(∀(i:Nat)(p:α×β)(e:MapEntry),m[i]?=some p->l[i]?=some e->e.key=kc p.1)->
    (Instr.findNow d (kc x) l n=some none/\V5 m x=.none/\∀v,aU m x v=m++[(x,v)])\/
    ∃i p e,m[i]?=some p/\l[i]?=some e/\(x==p.1)=true/\Instr.findNow d (kc x) l n=some (some (n+i,e.val))/\V5 m x=some p.2/\∀v,aU m x v=m.set i (x,v)
 |[],l,n,hl,_=>by
  have:l=[]:=by grind
  subst this;exact .inl ⟨rfl,rfl,λ_=>rfl⟩
 |p::r,[],n,hl,_=>by simp at hl
 |p::r,e::l,n,hl,h=>by
  have hk:=h 0 p e rfl rfl;have hs:=hd.same x p.1;cases hb:x==p.1 with
  |true=>
   rw[hb,<-hk]at hs;exact .inr ⟨0,p,e,rfl,rfl,hb,by simp[Instr.findNow,hs],by simp[V5,hb],λv=>by simp[aU,hb]⟩
  |false=>
   rw[hb,<-hk]at hs;rcases find_spec hd x r l (n+1) (by simpa using hl) (λi p' e' h1 h2=>h (i+1) p' e' (by simpa using h1) (by simpa using h2))with⟨h1,h2,h3⟩|⟨i,p',e',h1,h2,h3,h4,h5,h6⟩
   .exact .inl ⟨by simp[Instr.findNow,hs,h1],by simp[V5,hb,h2],λv=>by simp[aU,hb,h3]⟩
   .exact .inr ⟨i+1,p',e',by simpa using h1,by simpa using h2,h3,by simp[Instr.findNow,hs,h4];omega,by simp[V5,hb,h5],λv=>by simp[aU,hb,h6]⟩
def QV(i:TI):CV:=bif i.isAgg then .agg (qK i.zero i.ks)else(qK i.zero i.ks).headD (.v undef)
def dI0{t:Nat}{i:TI}(h:O6 P t i):Rep Z w (QV i) (Q9 i):=by
 unfold QV Q9;cases ha:i.isAgg with
 |true=>
  simp only[H9];refine .agg _ _ (aD2 _ _) (λj c x h1 h2=>?_) (λj c h1=>(ak2 (Z:=Z) (w:=w) h j c h1).1);obtain⟨_,y,h3,h4⟩:=ak2 (Z:=Z) (w:=w) h j c h1
  grind
 |false=>
  simp only[G6];have h1:=h.single ha;have h2:=h.len;cases hz:i.zero with
  |nil=>grind
  |cons z zs=>
   have hc:(qK i.zero i.ks)[0]?=some ((qK i.zero i.ks).headD (.v undef)):=by rw[hz];rfl
   obtain⟨_,y,h3,h4⟩:=ak2 (Z:=Z) (w:=w) h 0 _ hc
   grind
def bV3{t:Nat}{i:TI}(h:O6 P t i)(w:World):(zeroValue t).run P w=.ok (Q9 i) w:=by
 obtain⟨j,hj,_,_,hz⟩:=h.gX;simp[zeroValue,typeInfo,hj,hz]
def dh4{t kt et:TypeId}{i:TI}(ht:P.underlying t=some (.map kt et))(hkt:P.underlying kt=some d)(hd:zT d kc)(hi:O6 P et i){ev:β->CV}{z:β}(hz:QV i=ev z){m:List (α×β)}{v:Value}(hm:bj4 Z w (U9 kc ev m) v)(x:α)(ok:Bool):
    ∃u,(Instr.lookup t v (kc x) ok).run P w=.ok (if ok then .tuple #[u,.bool (V5 m x).isSome]else u) w/\Rep Z w (ev ((V5 m x).getD z)) u:=by
 have hck:∀b,(Instr.checkKey b 10000 kt (kc x)).run P w=.ok () w:=λb=>MapKept.run_checkKey hkt (hd.key x) b 9999;have fin:∀(arr:lH),m.length=arr.size->(∀(i:Nat)(p:α×β)(e:MapEntry),m[i]?=some p->arr[i]?=some e->e.key=kc p.1/\Rep Z w (ev p.2) e.val)->
  ∃u,(∃o,Instr.findNow d (kc x) arr.toList 0=some o/\((o=.none/\(V5 m x).isSome=false/\u=Q9 i)\/∃k,o=some (k,u)/\(V5 m x).isSome=true))/\Rep Z w (ev ((V5 m x).getD z)) u:=by
  intro arr hl he;rcases find_spec hd x m arr.toList 0 (by simpa using hl) (λi p e h1 h2=>(he i p e h1 (by simpa using h2)).1)with⟨h1,h2,_⟩|⟨i,p,e,h1,h2,h3,h4,h5,_⟩
  .exact⟨_,⟨_,h1,.inl ⟨rfl,by rw[h2];rfl,rfl⟩⟩,by rw[h2];show Rep Z w (ev z) _;rw[<-hz];exact dI0 hi⟩
  .grind
 rcases hm with⟨rfl,hes⟩|⟨b,arr,clock,rfl,hh,hl,he⟩
 .have hmn:m=[]:=by simpa[U9]using hes
  obtain⟨u,⟨o,ho,hu⟩,hr⟩:=fin #[] (by rw[hmn];rfl) (λi p e h1 h2=>by simp at h2);refine⟨u,?_,hr⟩;simp only[Instr.lookup,J6,O4 ht,O8,U5,hck,MapKept.run_findKey hkt ho];rcases hu with⟨rfl,h2,rfl⟩|⟨k,rfl,h2⟩
  .simp only[J6,bV3 hi,O8,U5,h2]
  .simp[h2]
 .obtain⟨u,⟨o,ho,hu⟩,hr⟩:=fin arr (by simpa[U9]using hl) (λi p e h1 h2=>by
   obtain⟨q1,q2⟩:=he i (.v (kc p.1)) (ev p.2) e (by simp[U9,h1]) h2
   exact⟨nC q1,q2⟩)
  refine⟨u,?_,hr⟩;simp only[Instr.lookup,J6,O4 ht,O8,U5,qN hh,hck,MapKept.run_findKey hkt ho];rcases hu with⟨rfl,h2,rfl⟩|⟨k,rfl,h2⟩
  .simp only[J6,bV3 hi,O8,U5,h2]
  .simp[h2]
def MF{os:Y0}{Eo:Q8}{r:SV}{x:Value}(hg:uP Z w os Eo)(hz:∀b o,Z b o->b<w.heap.size)(hr:O7 Z w (I5 os) Eo r x):rY Z w os Eo Z w os Eo r x:=
 { res:=hr,grp:=hg,keeps:=Keeps.refl _ _,X5:=hz,iH:=λ_ _ h=>.inl h,kept:=Kept.refl _ _,own:=λ_ h=>.inr h,ok:=eY.refl _ _ }
def cX3{t kt et:TypeId}{i:TI}(ht:P.underlying t=some (.map kt et))(hkt:P.underlying kt=some d)(hd:zT d kc)(hi:O6 P et i){ev:β->CV}{z:β}(hz:QV i=ev z){m:List (α×β)}{x:α}{a b:Operand}{ty:TypeId}{ok:Bool}{os:Y0}{s:SV}
    (hs:∀Z w Eo v,uP Z w os Eo->O7 Z w (I5 os) Eo s v->bj4 Z w (U9 kc ev m) v):
    fD P G (.lookup t a b ok) ty [s,.c (.v (kc x))] os (bif ok then .c (.U6 [ev ((V5 m x).getD z),.v (.bool (V5 m x).isSome)])else .c (ev ((V5 m x).getD z))) os:=by
 intro Z w Eo ac o next Q ho hty hg hzl hl hargs hgs hnext
 have h1:=hargs 0 s a rfl rfl;have h2:=mZ (hargs 1 (.c (.v (kc x))) b rfl rfl);obtain⟨u,hrun,hr⟩:=dh4 ht hkt hd hi hz (hs Z w Eo _ hg h1) x ok;have hex:(execOp ac.eval o).run P w=.ok (.value (if ok then .tuple #[u,.bool (V5 m x).isSome]else u)) w:=by
  obtain⟨dst,op,type,pos,after,guard⟩:=o;simp only at ho;subst ho;simp only[execOp,h2,J6,hrun,O8,U5]
 refine bP hex (hnext _ Z w Eo (MF hg hzl ?_));cases ok with
 |true=>
  refine .c _ _ (.U6 _ [u,.bool (V5 m x).isSome] rfl λi c y h3 h4=>?_)
  match i,h3,h4 with
  |0,h3,h4=>grind
  |1,h3,h4=>simp at h3 h4;subst h3;subst h4;exact .v _
  |n+2,h3,h4=>simp at h3
 |false=>exact .c _ _ hr
def bs0{t kt et:TypeId}{i:TI}(ht:P.underlying t=some (.map kt et))(hkt:P.underlying kt=some d)(hd:zT d kc)(hi:O6 P et i){ev:β->CV}{z:β}(hz:QV i=ev z){m:List (α×β)}{x:α}{a b:Operand}{ty:TypeId}{ok:Bool}:
    fD P G (.lookup t a b ok) ty [.mr 0 0,.c (.v (kc x))] [(0,.map (U9 kc ev m))] (bif ok then .c (.U6 [ev ((V5 m x).getD z),.v (.bool (V5 m x).isSome)])else .c (ev ((V5 m x).getD z))) [(0,.map (U9 kc ev m))]:=by
 refine cX3 ht hkt hd hi hz λZ w Eo v hg h=>?_;cases h with
 |mr _ _ _ hs hgen hE=>
  have he:=hE _ rfl;obtain⟨b,arr,clock,h1,h2,h3,h4,_⟩:=hg.ok 0;exact .inr ⟨b,arr,clock,he.symm.trans h1,h2,h3.1,h4⟩
def rF{α β:Type}[BEq α](m:List (α×β))(x:α)(z:β):Option β:=some ((V5 m x).getD z)
def CW{α β:Type}[BEq α](m:List (α×β))(x:α)(z:β):Option (β×Bool):=some ((V5 m x).getD z,(V5 m x).isSome)
section
variable{t kt et:TypeId}{i:TI}{ev:β->CV}{z:β}{m:List (α×β)}{x:α}{a b:Operand}{ty:TypeId}
def ZC(ht:P.underlying t=some (.map kt et))(hkt:P.underlying kt=some d)(hd:zT d kc)(hi:O6 P et i)(hz:QV i=ev z){y:β}(hy:rF m x z=some y):
    fD P G (.lookup t a b false) ty [.mr 0 0,.c (.v (kc x))] [(0,.map (U9 kc ev m))] (.c (ev y)) [(0,.map (U9 kc ev m))]:=by
 have:=bs0 (P:=P) (G:=G) ht hkt hd hi hz (m:=m) (x:=x) (a:=a) (b:=b) (ty:=ty) (ok:=false);rw[<-jJ hy];exact this
def aJ0(ht:P.underlying t=some (.map kt et))(hkt:P.underlying kt=some d)(hd:zT d kc)(hi:O6 P et i)(hz:QV i=ev z){y:β×Bool}(hy:CW m x z=some y):
    fD P G (.lookup t a b true) ty [.mr 0 0,.c (.v (kc x))] [(0,.map (U9 kc ev m))] (.c (.U6 [ev y.1,.v (.bool y.2)])) [(0,.map (U9 kc ev m))]:=by
 have:=bs0 (P:=P) (G:=G) ht hkt hd hi hz (m:=m) (x:=x) (a:=a) (b:=b) (ty:=ty) (ok:=true);rw[<-jJ hy];exact this
end
def jE(g:Nat)(o:G8)(j:Nat):I5 [(g,o)] j=if j=0 then(g,o)else(0,.none):=by
 cases j with
 |zero=>rfl
 |succ j=>simp[I5]
def qE{o:G8}{Eo:Q8}{j b:Nat}{g:Nat}(h:(I5 [(g,o)] j).2.blk (Eo j) b):j=0/\o.blk (Eo 0) b:=by
 rw[jE]at h
 grind
def ZB{t:TypeId}{ty:TypeId}:fD P G (.makeMap t .none) ty [] [] (.mr 0 1) [(1,.map [])]:=by
 intro Z w Eo ac o next Q ho hty hg hzl hl hargs hgs hnext
 have hex:(execOp ac.eval o).run P w=.ok (.value (.map (some w.heap.size))) (w.alloc (.map #[] 0)):=by
  obtain⟨dst,op,type,pos,after,guard⟩:=o;simp only at ho;subst ho;simp[execOp,Instr.makeMap]
 refine bP hex (hnext _ Z _ (λ_=>.map (some w.heap.size)) ?_);have hnew:(w.alloc (.map #[] 0)).heap[w.heap.size]?=some (.map #[] 0):=(MapKept.heap_alloc w _).1;exact
  { res:=.mr 0 1 _ ⟨_,rfl⟩ (N8 _) λ_ _=>rfl
    grp:=⟨λj=>by
       rw[jE];by_cases hj:j=0
       .rw[I9 hj];exact⟨w.heap.size,#[],0,rfl,hnew,⟨rfl,Born.nil⟩,λi k v m h=>by simp at h,λo hz=>absurd (hzl _ _ hz) (Nat.lt_irrefl _)⟩
       .rw[H7 hj];trivial,
     λj j' b hne h1 h2=>hne ((qE (Eo:=λ_=>.map (some w.heap.size)) h1).1.trans (qE (Eo:=λ_=>.map (some w.heap.size)) h2).1.symm)⟩
    keeps:=Keeps.alloc hzl _
    X5:=λb o hz=>by grind
    iH:=λ_ _ h=>.inl h
    kept:=(Kept.refl _ _).alloc (λ_ h=>h.1) _
    own:=λb ⟨j,hj⟩=>by
     obtain⟨_,h⟩:=qE (Eo:=λ_=>.map (some w.heap.size)) hj
     grind
    ok:=
     { gen:=λt=>by simp[I5]
       var:=λt g hg hlv=>by
        obtain⟨cs,hlv⟩:=hlv;rw[jE]at hlv
        grind
       tok:=λt g el s hg hlv=>by
        rw[jE]at hlv
        grind
       arr:=λt g el sz ds D7 hg hlv=>by
        rw[jE]at hlv
        grind
       map:=λt g es hg hlv=>by
        rw[jE]at hlv;by_cases ht:t=0
        .rw[I9 ht]at hlv;simp at hlv;simp[I5]at hg;omega
        .rw[H7 ht]at hlv;simp at hlv } }
def cE0{o o':G8}{Eo:Q8}{w':World}{b:Nat}{r:SV}{x:Value}(hg:uP Z w [(0,o)] Eo)(hz:∀b o,Z b o->b<w.heap.size)(hb:o.blk (Eo 0) b)(hb':∀c,o'.blk (Eo 0) c->c=b)
    (hk:Kept (λk=>k≠b) w w') (hne:∀c,¬Z b c) (hok:X7 Z w' (I5 [(0,o')]) Eo (Eo 0) o') (hsk:eY (I5 [(0,o)]) Eo (I5 [(0,o')]) Eo) (hr:O7 Z w' (I5 [(0,o')]) Eo r x):
    rY Z w [(0,o)] Eo Z w' [(0,o')] Eo r x:=
 { res:=hr
   grp:=⟨λj=>by
      rw[jE];by_cases hj:j=0
      .grind
      .rw[H7 hj];trivial,
    λj j' b hne h1 h2=>hne ((qE h1).1.trans (qE h2).1.symm)⟩
   keeps:=λc k h=>⟨h,jM (hk.block c (λe=>hne k (e▸h)))⟩
   X5:=λc k h=>aH (hz c k h) hk.size
   iH:=λ_ _ h=>.inl h
   kept:=hk.mono λk ⟨_,h⟩ e=>h ⟨0,by rw[e];exact hb⟩
   own:=λc ⟨j,hj⟩=>by
    obtain⟨_,h⟩:=qE hj;exact .inr ⟨0,by rw[hb' _ h];exact hb⟩
   ok:=hsk }
def yL{t kt et:TypeId}(ht:P.underlying t=some (.map kt et))(hkt:P.underlying kt=some d)(hd:zT d kc){ev:β->CV}{m:List (α×β)}{x:α}{v:β}{a b c:Operand}{ty:TypeId}:
    fD P G (.mapUpdate t a b c) ty [.mr 0 0,.c (.v (kc x)),.c (ev v)] [(0,.map (U9 kc ev m))] .any [(0,.map (U9 kc ev (aU m x v)))]:=by
 intro Z w Eo ac o next Q ho hty hg hzl hl hargs hgs hnext
 have h1:=hargs 0 (.mr 0 0) a rfl rfl;have h2:=mZ (hargs 1 (.c (.v (kc x))) b rfl rfl);have h3:Rep Z w (ev v) (ac.eval c):=by
  have:=hargs 2 (.c (ev v)) c rfl rfl;cases this with|c _ _ h=>exact h
 obtain⟨bl,arr,clock,hE,hh,hlen,hent,hnz⟩:=hg.ok 0;have hav:ac.eval a=.map (some bl):=by
  generalize ac.eval a=y at h1;cases h1 with
  |mr _ _ _ hs hgen hE'=>exact(hE' _ rfl).symm.trans hE
 have hck:(Instr.checkKey false 10000 kt (kc x)).run P w=.ok () w:=MapKept.run_checkKey hkt (hd.key x) false 9999;have hblk:(I5 [(0,G8.map (U9 kc ev m))] 0).2.blk (Eo 0) bl:=by rw[hE];rfl
 have hkey:∀(i:Nat)(p:α×β)(e:MapEntry),m[i]?=some p->arr[i]?=some e->e.key=kc p.1/\Rep Z w (ev p.2) e.val:=λi p e h4 h5=>by
  obtain⟨q1,q2⟩:=hent i (.v (kc p.1)) (ev p.2) e (by simp[U9,h4]) h5;exact⟨nC q1,q2⟩
 have hml:m.length=arr.size:=by grind
 have hlt:bl<w.heap.size:=(X6.1 hh).1;have fin:∀(arr':lH)(clock':Nat),(Instr.mapUpdate t (.map (some bl)) (kc x) (ac.eval c)).run P w=.ok () { w with heap:=w.heap.setIfInBounds bl (.map arr' clock') }->
  ((aU m x v).length=arr'.size/\Born arr' clock')->(∀(i:Nat)(p:α×β)(e:MapEntry),(aU m x v)[i]?=some p->arr'[i]?=some e->e.key=kc p.1/\Rep Z w (ev p.2) e.val)->Oper.dV P o ac w next Q:=by
  intro arr' clock' hrun hl' he';obtain⟨hset,hoth⟩:=MapKept.heap_set (o':=.map arr' clock') hh;have hex:(execOp ac.eval o).run P w=.ok .skip { w with heap:=w.heap.setIfInBounds bl (.map arr' clock') }:=by
   obtain⟨dst,op,type,pos,after,guard⟩:=o;simp only at ho;subst ho;simp only[execOp,hav,h2,J6,hrun,O8,U5]
  have hk:Kept (λk=>k≠bl) w { w with heap:=w.heap.setIfInBounds bl (.map arr' clock') }:=⟨rfl,rfl,rfl,by simp,λk hk=>hoth k hk,λk hk=>(hoth k (λe=>by rw[e,hh]at hk;exact nomatch hk)).trans hk⟩;have hkeep:Keeps Z w Z { w with heap:=w.heap.setIfInBounds bl (.map arr' clock') }:=λc k h=>⟨h,jM (hk.block c (λe=>hnz k (e▸h)))⟩;refine QU hex (hnext _ Z _ Eo (cE0 hg hzl hblk (λc h=>by rw[hE]at h;cases h;rfl) hk hnz ?_ ?_ (.any _)))
  .refine⟨bl,arr',clock',hE,hset,⟨by simpa[U9]using hl'.1,hl'.2⟩,λi k u e h4 h5=>?_,hnz⟩;rw[P9]at h4;cases hp:(aU m x v)[i]? with
   |none=>grind
   |some p=>
    rw[hp]at h4;simp at h4;obtain⟨rfl,rfl⟩:=h4;obtain⟨q1,q2⟩:=he' i p e hp h5;exact⟨by rw[q1];exact .v _,q2.keep hkeep⟩
  .exact
    { gen:=λt=>by rw[jE,jE];split<;>exact N8 _
      var:=λt g _ hlv=>by
       obtain⟨cs,hlv⟩:=hlv;rw[jE]at hlv
       grind
      tok:=λt g el s hg hlv=>by
       rw[jE]at hlv
       grind
      arr:=λt g el sz ds D7 hg hlv=>by
       rw[jE]at hlv
       grind
      map:=λt g es _ hlv=>by
       rw[jE]at hlv⊢;by_cases ht:t=0
       .grind
       .rw[H7 ht]at hlv;simp at hlv }
 rcases find_spec hd x m arr.toList 0 (by simpa using hml) (λi p e h4 h5=>(hkey i p e h4 (by simpa using h5)).1)with⟨q1,q2,q3⟩|⟨i,p,e,q1,q2,q3,q4,q5,q6⟩
 .refine fin (arr.push { key:=kc x,val:=ac.eval c,born:=clock }) (clock+1) ?_ ⟨by rw[q3];simp[hml],hlen.2.push _ _⟩ λi p e h4 h5=>?_
  .simp only[Instr.mapUpdate,J6,O4 ht,O8,qN hh,hck,MapKept.run_findKey hkt q1,KQ _ hh]
  .rw[q3]at h4;rcases fJ i m.length with hi|hi
   .grind
   .rw[dN hi]at h4
    grind
 .have nR:arr[i]?=some e:=by simpa using q2
  have cM5:=(hkey i p e q1 nR).1;refine fin (arr.modify i λe=>{ e with key:=kc x,val:=ac.eval c }) clock ?_ ⟨by rw[q6];simp[hml],hlen.2.modify _ _ λ_=>rfl⟩ λj p' e' h4 h5=>?_
  .rw[X9]at q4;simp only[Instr.mapUpdate,J6,O4 ht,O8,qN hh,hck,MapKept.run_findKey hkt q4,nR,FB,Option.getD_some,Instr.keyThatStays,cM5,hd.bits x p.1 q3,if_true,U5,KQ _ hh]
  .rw[q6,xY]at h4;rw[zM]at h5;by_cases hij:i=j
   .grind
   .grind
end
abbrev eInt(x:Int):CV:=I x
abbrev qY(x:Bool):CV:=B x
end Go.F7
namespace Go.F7
open Go Go.RowKit
def slc{α:Type}(l:List α)(lo hi:Int):Option (List α):=bif decide (0<=lo/\lo<=hi/\hi<=l.length)then some ((l.drop lo.toNat).take (hi.toNat-lo.toNat))else .none
def bZ1{α:Type}{l r:List α}{lo hi:Int}(h:slc l lo hi=some r):∃a b:Nat,lo=a/\hi=b/\a<=b/\b<=l.length/\r=(l.drop a).take (b-a):=by
 unfold slc at h;cases hb:decide (0<=lo/\lo<=hi/\hi<=l.length)with
 |false=>grind
 |true=>
  rw[hb]at h;have hc:=iR hb;simp at h;exact⟨lo.toNat,hi.toNat,by omega,by omega,by omega,by omega,h.symm⟩
section
variable{P:Program}{G:aB}{Z:Zone}{w:World}
def dh6{t e:TypeId}{i:TI}(ht:P.underlying t=some (.slice e))(hi:O6 P e i){ds:dS}{v:Value}(hv:Rep Z w (.sl i.size ds) v){l h:Nat}(hlh:l<=h)(hh:h<=ds.length){lo hi':uY}(hlo:QY lo l 0)(hhi:QY hi' h ds.length):
    ∃v',(Instr.sliceAt t v lo hi' none).run P w=.ok v' w/\Rep Z w (.sl i.size ((ds.drop l).take (h-l))) v':=by
 have key:∀(a:qP)(cap:Nat),v=.slice a ds.length cap->ds.length<=cap->(Instr.sliceAt t v lo hi' none).run P w=.ok (.slice (if cap=l then a else a.map (·.add (l*i.size))) (h-l) (cap-l)) w:=by
  intro a cap he hc;subst he;simp only[Instr.sliceAt,J6,O4 ht,O8,Instr.slice,dh7 true hc hlh hh hlo hhi,hi.sizeOf,U5]
 generalize hcv:CV.sl i.size ds=cv at hv;cases hv with
 |nil sz a cap=>
  injection hcv with h1 h2
  subst h2;simp at hh;subst hh;have hl0:l=0:=Nat.le_zero.1 hlh;subst hl0;refine⟨_,key a cap rfl (aF _),?_⟩;simp only[List.drop_nil,List.take_nil];exact .nil _ _ _
 |sl sz ds' b o cap f hcap hsz hc hr=>
  injection hcv with h1 h2
  subst h1;subst h2;refine⟨_,key (some ⟨b,o,none⟩) cap rfl hcap,?_⟩;by_cases hle:l=h
  .subst hle;simp only[Nat.sub_self,List.take_zero];exact .nil _ _ _
  .have hcl:cap≠l:=by omega
   rw[H7 hcl];show Rep Z w _ (Value.slice (some (Addr.add ⟨b,o,none⟩ (l*i.size))) (h-l) (cap-l));rw[show Addr.add ⟨b,o,none⟩ (l*i.size)=⟨b,o+l*i.size,none⟩ by simp[Addr.add]];have hlen:((ds.drop l).take (h-l)).length=h-l:=by simp;omega
   have hget:∀(k:Nat)(d:G9),((ds.drop l).take (h-l))[k]?=some d->ds[l+k]?=some d:=λk d hk=>by grind
   have:=Rep.sl (Z:=Z) (w:=w) i.size ((ds.drop l).take (h-l)) b (o+l*i.size) (cap-l) (λk j=>f (l+k) j) (by omega) (λk d hk=>hsz (l+k) d (hget k d hk))
    (λk j d c h1 h2=>by
      have:=hc (l+k) j d c (hget k d h1) h2;rw[show o+l*i.size+k*i.size+j=o+(l+k)*i.size+j by rw[mF];omega]
      exact this)
    (λk j d c h1 h2=>hr (l+k) j d c (hget k d h1) h2)
   grind
 |_=>cases hcv
theorem dp7{t:TypeId}{x:Operand}{a b:zZ}:(Op.slice t x a b none).operands[0]?=some x:=by cases a<;>cases b<;>rfl
def dp6{α:Type}{t e:TypeId}{i:TI}(ht:P.underlying t=some (.slice e))(hi:O6 P e i){cf:α->G9}{l r:List α}{lo hi':Int}(h:slc l lo hi'=some r){x:Operand}{a b:zZ}{ty:TypeId}{sa:dG}
    (hsa:∀(Z:Zone)(w:World)(Eo:Q8)(ac:Act),(∀(j:Nat)(s:SV)(y:Operand),(SV.c (.sl i.size (l.map cf))::sa)[j]?=some s->(Op.slice t x a b none).operands[j]?=some y->O7 Z w (I5 []) Eo s (ac.eval y))->
      QY (a.map ac.eval) lo.toNat 0/\QY (b.map ac.eval) hi'.toNat l.length):
    fD P G (.slice t x a b none) ty (.c (.sl i.size (l.map cf))::sa) [] (.c (.sl i.size (r.map cf))) []:=by
 intro Z w Eo ac o next Q ho hty hg hzl hl hargs hgs hnext
 obtain⟨p,q,hp,hq,h1,h2,hr⟩:=bZ1 h;have hx:Rep Z w (.sl i.size (l.map cf)) (ac.eval x):=by
  have:=hargs 0 _ x rfl dp7;cases this with|c _ _ h=>exact h
 obtain⟨b1,b2⟩:=hsa Z w Eo ac hargs;obtain⟨v',hrun,hrep⟩:=dh6 ht hi hx (l:=p) (h:=q) h1 (by simpa using h2) (by rw[hp]at b1;simpa using b1) (by rw[hq]at b2;simpa using b2);have hex:(execOp ac.eval o).run P w=.ok (.value v') w:=by
  obtain⟨dst,op,type,pos,after,guard⟩:=o;simp only at ho;subst ho;simp only[execOp,Option.map_none,J6,hrun,O8,U5]
 refine bP hex (hnext _ Z w Eo (MF hg hzl (.c _ _ ?_)));rw[hr,List.map_take,List.map_drop];exact hrep
def MC{α:Type}{t e:TypeId}{i:TI}(ht:P.underlying t=some (.slice e))(hi:O6 P e i){cf:α->G9}{l r:List α}{hi':Int}(h:slc l 0 hi'=some r){x b:Operand}{ty:TypeId}{k:IntKind}:
    fD P G (.slice t x none (some b) none) ty [.c (.sl i.size (l.map cf)),.c (.v (.int k hi'))] [] (.c (.sl i.size (r.map cf))) []:=
 dp6 ht hi h λZ w Eo ac hargs=>by
  obtain⟨p,q,hp,hq,h1,h2,hr⟩:=bZ1 h;have:=mZ (hargs 1 _ b rfl (by simp[Op.operands]));exact⟨.inl ⟨rfl,rfl⟩,.inr ⟨k,by simp[this,hq]⟩⟩
def bk9{xs:H6}{v:Value}(h:Rep Z w (.agg (xs.map CV.v)) v):v=.agg xs.toArray:=by
 generalize hc:CV.agg (xs.map CV.v)=c at h;cases h with
 |agg cs vs hl hr ha=>
  injection hc with hc
  subst hc;have:xs=vs:=by
   apply nZ;intro i;cases hi:xs[i]? with
   |none=>grind
   |some x=>
    have hlt:i<vs.length:=by grind
    have:=hr i (.v x) vs[i] (by simp[hi]) (J9 hlt);rw[J9 hlt,nC this]
  rw[this]
 |_=>cases hc
def cD1{op:BinOp}{t:TypeId}{xs ys:H6}{r:Bool}{cx cy:G9}(hx:cx=xs.map CV.v)(hy:cy=ys.map CV.v)(hm:P.eqGuardType P.depth t=false)(hrun:∀w,(binOp op t (.agg xs.toArray) (.agg ys.toArray)).run P w=.ok (.bool r) w){x y:Operand}{ty:TypeId}{z:TypeId}:
    fD P G (.binOp op t x y z) ty [.c (.agg cx),.c (.agg cy)] [] (.c (.v (.bool r))) []:=by
 intro Z w Eo ac o next Q ho hty hg hzl hl hargs hgs hnext
 subst hx;subst hy;have e1:ac.eval x=.agg xs.toArray:=by
  have:=hargs 0 _ x rfl rfl;cases this with|c _ _ h=>exact bk9 h
 have e2:ac.eval y=.agg ys.toArray:=by
  have:=hargs 1 _ y rfl rfl;cases this with|c _ _ h=>exact bk9 h
 have hex:(execOp ac.eval o).run P w=.ok (.value (.bool r)) w:=by
  obtain⟨dst,op,type,pos,after,guard⟩:=o;simp only at ho;subst ho;simp only[execOp,e1,e2,J6,run_eqGuard_agg w _ t x y _ _ hm,hrun,O8,U5]
 exact bP hex (hnext _ Z w Eo (MF hg hzl (.c _ _ (.v _))))
def UN(g h:Nat)(o p:G8)(j:Nat):I5 [(g,o),(h,p)] j=if j=0 then(g,o)else if j=1 then(h,p)else(0,.none):=by
 match j with
 |0=>rfl
 |1=>rfl
 |j+2=>simp[I5]
end
end Go.F7
namespace Go.F7
open Go Go.RowKit
section
variable{P:Program}{G:aB}{Z:Zone}{w:World}
def ao9{os:Y0}{Eo:Q8}{o':G8}{E1:Value}{w':World}{r:SV}{x:Value}(hos:os=[]\/∃o,os=[(0,o)])
    (hz:∀b o,Z b o->b<w.heap.size) (hkeep:Keeps Z w Z w') (hsz:w.heap.size<=w'.heap.size) (hk:Kept (SG w os Eo) w w') (hok:X7 Z w' (I5 [(1,o')]) (λ_=>E1) E1 o')
    (hblk:∀b,o'.blk E1 b->w.heap.size<=b\/GB os Eo b) (hr:O7 Z w' (I5 [(1,o')]) (λ_=>E1) r x):rY Z w os Eo Z w' [(1,o')] (λ_=>E1) r x:=by
 have hgen:∀t,(I5 os t).1=0:=λt=>by
  rcases hos with rfl|⟨o,rfl⟩
  .simp[I5]
  .rw[jE];split<;>rfl
 have hlow:∀t g o,g<=(I5 os t).1->I5 [(1,o')] t=(g,o)->o=.none:=λt g o hg hl=>by
  rw[hgen]at hg;rw[jE]at hl
  grind
 exact
  { res:=hr
    grp:=⟨λj=>by
       rw[jE];by_cases hj:j=0
       .grind
       .rw[H7 hj];trivial,
     λj j' b hne h1 h2=>hne ((qE (Eo:=λ_=>E1) h1).1.trans (qE (Eo:=λ_=>E1) h2).1.symm)⟩
    keeps:=hkeep
    X5:=λb o h=>aH (hz b o h) hsz
    iH:=λ_ _ h=>.inl h
    kept:=hk
    own:=λb ⟨j,hj⟩=>hblk b (qE (Eo:=λ_=>E1) hj).2
    ok:=
     { gen:=λt=>by rw[hgen];exact aF _
       var:=λt g hg hl=>by
        obtain⟨cs,hl⟩:=hl
        grind
       tok:=λt g el s hg hl=>absurd (hlow t g _ hg hl) (by simp)
       arr:=λt g el sz ds D7 hg hl=>absurd (hlow t g _ hg hl) (by simp)
       map:=λt g es hg hl=>absurd (hlow t g _ hg hl) (by simp) } }
def aE6{e sz:Nat}{α:Type}{cf:α->G9}{l:List α}(hcf:∀x,(cf x).length=sz){v:Value}{xs:H6}{obj:J8}{E:Q8}(hsz:0<sz)(hown:w.ownsRow 0 e sz v l.length xs)
    (hc:∀(i j:Nat)(a:α)(c:CV),l[i]?=some a->(cf a)[j]?=some c->c.atom=true/\∃u,xs[i*sz+j]?=some u/\Rep Z w c u) (hz:∀b o,v.ownBlock=some b->¬Z b o):
    X7 Z w obj E v (.arr e sz (l.map cf) none):=by
 have hget:∀(i:Nat)(d:G9),(l.map cf)[i]?=some d->∃a,l[i]?=some a/\d=cf a:=λi d h=>by grind
 refine⟨xs,hsz,by simpa using hown,C9 (λ_ _ h=>nomatch h) (λi d hd _=>?_),λi d hi hd=>?_,λi d hi hd j c hj=>?_,hz⟩
 .obtain⟨a,ha,rfl⟩:=hget i d hd;exact OE λj c hj=>(hc i j a c ha hj).2.choose_spec.2.IV
 .obtain⟨a,ha,rfl⟩:=hget i d hd;exact hcf a
 .obtain⟨a,ha,rfl⟩:=hget i d hd;obtain⟨h1,u,h2,h3⟩:=hc i j a c ha hj;exact⟨h1,u,h2,.cl h3⟩
def MB{e:TypeId}{ie:TI}(hsz:0<ie.size){ty:TypeId}:fD P G (.assign (.const (.slice .none 0 0))) ty [.c (.sl 0 [])] [] (.rs 0 1) [(1,.arr e ie.size [] none)]:=by
 intro Z w Eo ac o next Q ho hty hg hzl hl hargs hgs hnext
 have hex:(execOp ac.eval o).run P w=.ok (.value (.slice none 0 0)) w:=by
  obtain⟨dst,op,type,pos,after,guard⟩:=o;simp only at ho;subst ho;simp[execOp,Act.eval]
 refine bP hex (hnext _ Z w (λ_=>.slice none 0 0) (ao9 (.inl rfl) hzl (Keeps.refl _ _) (N8 _) (Kept.refl _ _) ?_ (λb hb=>by simp[G8.blk]at hb) (.rs 0 1 _ ⟨_,_,_,rfl⟩ (N8 _) λ_ _ _ _ _=>rfl)));exact⟨[],hsz,World.ownsRow_nil _ _ _ _,C9 (λ_ _ h=>nomatch h) (λi d h=>by simp at h),λi d hi=>by simp at hi,λi d hi=>by simp at hi,λb o hb=>by simp[Value.ownBlock]at hb⟩
def TB{α:Type}{t e:TypeId}{i:TI}{cf:α->G9}{l ns:List α}(ht:P.underlying t=some (.slice e))(hi:O6 P e i)(h1:1<=i.size)(hby:i.bytes<=4096)(hcf:∀x,(cf x).length=i.size)
    (hle:decide (l.length+ns.length<=4294967296)=true) {x y:Operand} {ty:TypeId}:
    fD P G (.call ⟨.builtin .append,⟨[x,y]⟩,⟨[t,t]⟩⟩) ty [.rs 0 0,.c (.sl i.size (ns.map cf))] [(0,.arr e i.size (l.map cf) none)] (.rs 0 1) [(1,.arr e i.size ((l++ns).map cf) none)]:=by
 intro Z w Eo ac o next Q ho hty hg hzl hl hargs hgs hnext
 have hle:=iR hle;have hx:=hargs 0 (.rs 0 0) x rfl rfl;have hy:Rep Z w (.sl i.size (ns.map cf)) (ac.eval y):=by
  have:=hargs 1 (.c (.sl i.size (ns.map cf))) y rfl rfl;cases this with|c _ _ h=>exact h
 obtain⟨xs,mW,hown,hfoc,rC,hcells,hnz⟩:=hg.ok 0;have hE:Eo 0=ac.eval x/\∃aa q k,ac.eval x=.slice aa q k:=by
  generalize ac.eval x=v at hx;cases hx with|rs _ _ _ hs _ hp=>exact⟨hp _ _ _ _ rfl,hs⟩
 obtain⟨hE,GZ⟩:=hE;rw[hE]at hown hnz;obtain⟨news,hnl,hone,hyv,hcell⟩:=ao1 (sz:=i.size) (by omega) (λm hm=>by obtain⟨a,_,rfl⟩:=jH.1 hm;exact hcf a) hy;obtain⟨j,hj,hjs,hjb,hjz⟩:=hi.gX;have hzc:(Q9 i).cells.size=i.size:=by rw[lX hi];simp[hi.len]
 simp only[X0]at hown hnl hyv;have hbytes:(l.length+ns.length)*j.bytes<=140737488355328:=by
  rw[hjb]
  calc (l.length+ns.length)*i.bytes<=4294967296*4096:=Nat.mul_le_mul hle hby
   _<=140737488355328:=by decide
 obtain⟨v',w',hrun,hown',hgr,hblk,hs'⟩:=bl3 (P:=P) (ty:=ty) ht hj hjz hjs hzc h1 hown GZ hnl hone hyv (by omega) hbytes (aF _);have hex:(execOp ac.eval o).run P w=.ok (.value v') w':=by
  obtain⟨dst,op,type,pos,after,guard⟩:=o;simp only at ho hty;subst ho;subst hty;rw[BJ];simp only[builtin,J6,List.map_toArray,kP,List.map_nil,hrun];rfl
 have hkeep:Keeps Z w Z w':=λb o hz=>⟨hz,jM (hgr.block b (hzl b o hz) (λe=>hnz b o e.symm hz))⟩;have hgb:∀b,(ac.eval x).ownBlock=some b->GB [(0,.arr e i.size (l.map cf) none)] Eo b:=λb hb=>⟨0,by rw[hE];rw[<-jK (ac.eval x) e i.size (l.map cf) none]at hb;exact hb⟩;refine bP hex (hnext _ Z w' (λ_=>v') (ao9 (.inr ⟨_,rfl⟩) hzl hkeep hgr.size ((Kept.refl _ _).grown hgr (λk h=>h.1) (λk hk h=>h.2 (hgb k hk)) (λk hk=>by obtain⟨cur,hc⟩:=VT hown hk;rw[hc];exact λh=>nomatch h)) ?_ (λb hb=>?_) (.rs 0 1 _ hs' (N8 _) λ_ _ _ _ _=>rfl)))
 .refine aE6 hcf (by omega) (by simpa using hown') (λi' j' a c ha hc=>?_) (λb o hb hz=>?_)
  .have hjl:j'<i.size:=by rw[<-hcf a];exact(P7.1 hc).1
   rw[aL2 hown.1 hjl];by_cases hil:i'<l.length
   .rw[dX hil]at ha;rw[I9 hil];have hd:(l.map cf)[i']?=some (cf a):=by grind
    obtain⟨q1,u,q2,q3⟩:=hcells i' (cf a) (by simpa using hil) hd j' c hc;exact⟨q1,u,q2,(q3.closed (mY (hfoc.2 i' (cf a) hd (λ_ _ h=>nomatch h)) hc)).keep hkeep⟩
   .rw[dN (by omega)]at ha;rw[H7 hil];obtain⟨q1,u,q2,q3⟩:=hcell (i'-l.length) j' (cf a) c (by rw[P9,ha];rfl) hc;exact⟨q1,u,q2,q3.keep hkeep⟩
  .grind
 .rw[jK]at hb
  grind
def aI9{t e:TypeId}{i:TI}(ht:P.underlying t=some (.slice e))(hi:O6 P e i)(h1:1<=i.size){ty:TypeId}:
    fD P G (.buildSlice t 0 ⟨[]⟩) ty [] [] (.rs 0 1) [(1,.arr e i.size [] none)]:=by
 intro Z w Eo ac o next Q ho hty hg hzl hl hargs hgs hnext
 have hex:(execOp ac.eval o).run P w=.ok (.value (.slice (some ⟨w.heap.size,0,none⟩) 0 0)) (w.alloc (.cells #[] e)):=by
  obtain⟨dst,op,type,pos,after,guard⟩:=o;simp only at ho;subst ho;simp only[execOp,Instr.buildSlice,J6,O4 ht,O8,hi.sizeOf w,Nat.zero_mul,U5];rw[H7 (by decide),I9 trivial];have hr:Array.range 0=#[]:=by simp
  simp only[J6,U5,O8,Instr.fill,Array.map_empty,hr];rfl
 have hown:=World.ownsRow_lit (base:=0) (e:=e) (size:=i.size) w #[] 0 (aF _) (by simp only[maxLen];omega) (by simp);refine bP hex (hnext _ Z _ (λ_=>.slice (some ⟨w.heap.size,0,none⟩) 0 0) (ao9 (.inl rfl) hzl (Keeps.alloc hzl _) (by simp) ((Kept.refl _ _).alloc (λ_ h=>h.1) _) ?_ (λb hb=>?_) (.rs 0 1 _ ⟨_,_,_,rfl⟩ (N8 _) λ_ _ _ _ _=>rfl)))
 .exact⟨[],h1,hown,C9 (λ_ _ h=>nomatch h) (λi d h=>by simp at h),λi d hi=>by simp at hi,λi d hi=>by simp at hi,λb o hb hz=>by
   simp[Value.ownBlock]at hb;have:=hzl b o hz
   omega⟩
 .grind
end
def OH{α:Type}[DecidableEq α](x y:Option α):Option α:=if x=y then x else none
def aT7{α β γ:Type}[DecidableEq α]{l:List β}{cf:β->γ}{x y:Option α}{r:α}{K:Bool->Prop}(h:(bif l.isEmpty then OH x y else y)=some r)(h1:x=some r->K true)(h2:y=some r->K false):
    ∀b,(b=true->l.map cf=[])->K b:=by
 intro b hb;cases b with
 |false=>
  refine h2 ?_;cases l with
  |nil=>
   simp only[List.isEmpty_nil,H9,OH]at h
   grind
  |cons a l=>exact h
 |true=>
  have:=hb rfl;cases l with
  |nil=>
   simp only[List.isEmpty_nil,H9,OH]at h
   grind
  |cons a l=>simp at this
end Go.F7
end
section
namespace Go.F7
open Go Go.RowKit
section
variable{P:Program}{G:aB}
end
end Go.F7
namespace Go.F7
open Go Go.RowKit
def as7:List Operand->List SV->List SV->Prop
 |[],[],[]=>True
 |x::xs,s::ss,s'::ss'=>(s'=s\/(x=.const (.slice none 0 0)/\s'=.c (.v (.slice none 0 0))))/\as7 xs ss ss'
 |_,_,_=>False
def bI0:∀{xs:List Operand}{ss ss':dG},as7 xs ss ss'->ss'.length=xs.length
 |[],[],[],_=>rfl
 |_::_,_::_,_::_,h=>by simp[bI0 h.2]
 |[],[],_::_,h=>h.elim
 |[],_::_,_,h=>h.elim
 |_::_,[],_,h=>h.elim
 |_::_,_::_,[],h=>h.elim
def bH9:∀{xs:List Operand}{ss ss':dG},as7 xs ss ss'->∀{i:Nat}{s':SV}{x:Operand},ss'[i]?=some s'->xs[i]?=some x->∃s,ss[i]?=some s/\(s'=s\/(x=.const (.slice none 0 0)/\s'=.c (.v (.slice none 0 0))))
 |[],[],[],_,_,_,_,h,_=>by simp at h
 |_::_,s::_,_::_,h,0,_,_,h1,h2=>by
  simp at h1 h2;subst h1;subst h2;exact⟨s,rfl,h.1⟩
 |_::_,_::_,_::_,h,i+1,_,_,h1,h2=>by
  obtain⟨s,q1,q2⟩:=bH9 h.2 (by simpa using h1) (by simpa using h2)
  grind
 |[],[],_::_,h,_,_,_,_,_=>h.elim
 |[],_::_,_,h,_,_,_,_,_=>h.elim
 |_::_,[],_,h,_,_,_,_,_=>h.elim
 |_::_,_::_,[],h,_,_,_,_,_=>h.elim
section
variable{P:Program}{G:aB}{T:Tab}
def cC7{t e:TypeId}{ie:TI}{x0:Operand}(hsz:0<ie.size){ty:TypeId}:
    fD P G (.box t x0) ty [.c (.v (.slice none 0 0))] [] (.pm 0 1 0) [(1,.varx [.rs 1 1]),(1,.arr e ie.size [] none)]:=by
 intro Z w Eo ac o next Q ho hty hg hzl hl hargs hgs hnext
 have hx:ac.eval x0=.slice none 0 0:=by
  have:=hargs 0 _ x0 rfl rfl;generalize ac.eval x0=y at this;cases this with
  |c _ _ h=>cases h;rfl
 have hex:(execOp ac.eval o).run P w=.ok (.value (.pointer (some ⟨w.heap.size,0,none⟩))) (w.alloc (.cells #[.slice none 0 0] t (0,0))):=by
  obtain⟨dst,op,type,pos,after,guard⟩:=o;simp only at ho;subst ho;simp[execOp,Instr.box,newVar,newRow,hx,Value.cells]
 let Er:Nat->Value:=λj=>if j=0 then .pointer (some ⟨w.heap.size,0,none⟩)else .slice none 0 0
 refine bP hex (hnext _ Z _ Er ?_);have hnew:(w.alloc (.cells #[.slice none 0 0] t (0,0))).heap[w.heap.size]?=some (.cells #[.slice none 0 0] t (0,0)):=(MapKept.heap_alloc w _).1;have hblk:∀j b,(I5 [(1,G8.varx [.rs 1 1]),(1,.arr e ie.size [] none)] j).2.blk (Er j) b->j=0/\b=w.heap.size:=λj b hb=>by
  rw[UN]at hb
  grind
 exact
  { res:=.pm 0 1 0 _ ⟨_,rfl⟩ (N8 _) λ_=>⟨w.heap.size,rfl,rfl⟩
    grp:=⟨λj=>by
       rw[UN];by_cases h0:j=0
       .subst h0;rw[I9 rfl];refine⟨w.heap.size,t,#[.slice none 0 0],rfl,hnew,rfl,λk c hk=>?_,λo hz'=>absurd (hzl _ _ hz') (Nat.lt_irrefl _),.none λk c hk=>by match k,hk with|0,hk=>simp at hk;subst hk;rfl|k+1,hk=>simp at hk⟩
        match k,hk with
        |0,hk=>
         simp at hk;subst hk;exact⟨rfl,_,rfl,.one (.rs 1 1 _ ⟨_,_,_,rfl⟩ (N8 _) λ_ _ _ _ _=>rfl)⟩
        |k+1,hk=>simp at hk
       .rw[H7 h0];by_cases h1:j=1
        .subst h1;rw[I9 rfl];refine⟨[],hsz,World.ownsRow_nil _ _ _ _,C9 (λ_ _ h=>nomatch h) (λi d h=>by simp at h),λi d hi=>by simp at hi,λi d hi=>by simp at hi,λb o hb=>by simp[Er,Value.ownBlock]at hb⟩
        .rw[H7 h1];trivial,
     λj j' b hne h1 h2=>hne ((hblk j b h1).1.trans (hblk j' b h2).1.symm)⟩
    keeps:=Keeps.alloc hzl _
    X5:=λb o hz=>by grind
    iH:=λ_ _ h=>.inl h
    kept:=(Kept.refl _ _).alloc (λ_ h=>h.1) _
    own:=λb ⟨j,hj⟩=>.inl (by have:=(hblk j b hj).2;omega)
    ok:=
     { gen:=λt=>by simp[I5]
       var:=λt g hg hlv=>by
        obtain⟨cs,hlv⟩:=hlv;rw[UN]at hlv;by_cases h0:t=0
        .rw[I9 h0]at hlv;simp at hlv;simp[I5]at hg;omega
        .grind
       tok:=λt g el s hg hlv=>by
        rw[UN]at hlv
        grind
       arr:=λt g el sz ds D7 hg hlv=>by
        rw[UN]at hlv;by_cases h0:t=0
        .grind
        .rw[H7 h0]at hlv;by_cases h1:t=1
         .rw[I9 h1]at hlv;simp at hlv;simp[I5]at hg;omega
         .grind
       map:=λt g es hg hlv=>by
        rw[UN]at hlv;by_cases h0:t=0
        .grind
        .rw[H7 h0]at hlv;by_cases h1:t=1
         .grind
         .rw[H7 h1]at hlv;simp at hlv } }
def cD0{c:Call}{ty:TypeId}{fo:Operand}(hc:c.callee=.value fo){f:FuncId}{caps l7 as':dG}{os os':Y0}{r:SV}{fs:SV}
    (hfs:fs=.V4 (.fn f) caps\/∃cs:G9,fs=.c (.fn f cs)/\caps=cs.map SV.c) (hna:as7 c.args.toList l7 as') (h:gI P G f (as'++caps) os r os'):fD P G (.call c) ty (fs::l7) os r os':=by
 obtain⟨⟨fn,hfn,hnm,hbd⟩,h⟩:=h;intro Z w Eo a o next Q ho hty hg hz hl hargs hgs hnext
 obtain⟨dst,op,type,pos,after,guard⟩:=o;simp only at ho hty;subst ho;subst hty;have hops:(Op.call c).operands=#[fo]++c.args:=by simp[Op.operands,Call.operands,hc]
 rw[hops]at hl hargs;have hfv:=hargs 0 fs fo rfl (by rw[QX (Nat.zero_lt_one)];rfl);have hcap:∃cv:H6,a.eval fo=.func (.func f) #[] cv.toArray/\caps.length=cv.length/\∀(i:Nat)(s:SV)(x:Value),caps[i]?=some s->cv[i]?=some x->O7 Z w (I5 os) Eo s x:=by
  generalize a.eval fo=y at hfv;rcases hfs with hfs|⟨cs,hfs,hcs⟩
  .subst hfs;cases hfv with
   |V4 _ _ vs _ hl hh=>exact⟨vs,rfl,hl,hh⟩
  .subst hfs;subst hcs;cases hfv with
   |c _ _ hr=>
    cases hr with
    |fn _ _ vs hl hh=>
     refine⟨vs,rfl,by simpa using hl,λi s x h1 h2=>?_⟩;rw[P9]at h1;cases hk:cs[i]? with
     |none=>grind
     |some c0=>rw[hk]at h1;simp at h1;subst h1;exact .c _ _ (hh i c0 x hk h2)
 obtain⟨cv,hcv,hcl,hcr⟩:=hcap;have dR6:l7.length=c.args.toList.length:=by grind
 have hal:as'.length=c.args.toList.length:=bI0 hna
 have BX:=h Z w Eo (c.args.toList.map a.eval++cv) hg hz (by simp;simp at hal;omega) (λi s x h1 h2=>by
  rcases fJ i as'.length with hlt|hge
  .rw[dX hlt]at h1;rw[dX (by simp;simp at hal;omega),P9]at h2;cases hk:c.args.toList[i]? with
   |none=>grind
   |some op=>
    rw[hk]at h2;simp at h2;subst h2;obtain⟨s0,hs0,hsc⟩:=bH9 hna h1 hk;rcases hsc with rfl|⟨rfl,rfl⟩
    .refine hargs (i+1) s op (by simpa using hs0) ?_
     grind
    .exact .c _ _ (.v _)
  .rw[dN hge]at h1;rw[dN (by simp;simp at hal;omega)]at h2;simp only[X0]at h2;rw[<-hal]at h2
   exact hcr _ s x h1 h2) hgs
 have wW:c.args.map a.eval++cv.toArray=((c.args.toList.map a.eval)++cv).toArray:=by grind
 have hrun:(execOp a.eval ⟨dst,.call c,type,pos,after,guard⟩).run P w=.ok (.enter f (c.args.toList.map a.eval++cv).toArray) w:=by
  simp only[execOp,resolve,hc,Deferred.ofValue,hcv,invoke,callFunc,J6,U5,O8,Array.empty_append,wW];have hnm':¬(fn.name= "runtime.NumGoroutine"):=by grind
  have wX:¬(fn.body=none):=λe=>by grind
  simp[Go.program,Sem.run,hfn,hnm',wX]
 refine QS (λ_ h=>nomatch h) ?_;unfold Oper.wp;rw[hrun];simp only[Oper.upon];refine BX.mono ?_
 grind
end
end Go.F7
end
namespace Go
abbrev aI:=@decide_eq_true
abbrev yC:=@Nat.mul_one
abbrev DI:=@of_decide_eq_false
end Go
namespace Go.F7
open Go Go.RowKit
def cD9{Z:Zone}{w:World}{o o':G8}{Eo:Q8}{w':World}{r:SV}{x:Value}(hg:uP Z w [(0,o)] Eo)(hz:∀b o,Z b o->b<w.heap.size){b:Nat}(hb:o.blk (Eo 0) b)(hb':∀c,o'.blk (Eo 0) c->c=b)
    (hk:Kept (λk=>k<w.heap.size/\k≠b) w w') (hne:∀c,¬Z b c) (hok:X7 Z w' (I5 [(0,o')]) Eo (Eo 0) o') (hsk:eY (I5 [(0,o)]) Eo (I5 [(0,o')]) Eo) (hr:O7 Z w' (I5 [(0,o')]) Eo r x):
    rY Z w [(0,o)] Eo Z w' [(0,o')] Eo r x:=
 { res:=hr
   grp:=⟨λj=>by
      rw[jE];by_cases hj:j=0
      .grind
      .rw[H7 hj];trivial,
    λj j' b hne h1 h2=>hne ((qE h1).1.trans (qE h2).1.symm)⟩
   keeps:=λc k h=>⟨h,jM (hk.block c ⟨hz c k h,λe=>hne k (e▸h)⟩)⟩
   X5:=λc k h=>aH (hz c k h) hk.size
   iH:=λ_ _ h=>.inl h
   kept:=hk.mono λk h=>⟨h.1,λe=>h.2 ⟨0,by rw[e];exact hb⟩⟩
   own:=λc ⟨j,hj⟩=>by
    obtain⟨_,h⟩:=qE hj;exact .inr ⟨0,by rw[hb' _ h];exact hb⟩
   ok:=hsk }
def bm1{e sz:Nat}{ds ds':dS}{Eo:Q8}:eY (I5 [(0,.arr e sz ds none)]) Eo (I5 [(0,.arr e sz ds' none)]) Eo where
 gen t:=by rw[jE,jE];split<;>exact N8 _
 var t g _ hlv:=by
  obtain⟨cs,hlv⟩:=hlv;rw[jE]at hlv
  grind
 tok t g el s hg hlv:=by
  rw[jE]at hlv
  grind
 arr t g el sz ds D7 hg hlv:=by
  rw[jE]at hlv;by_cases ht:t=0
  .rw[I9 ht]at hlv;simp at hlv;obtain⟨rfl,rfl,rfl,rfl,rfl⟩:=hlv;exact⟨⟨_,none,by rw[ht];rfl⟩,rfl⟩
  .grind
 map t g es hg hlv:=by
  rw[jE]at hlv
  grind
def cD5{P:Program}{G:aB}{f:FuncId}{e:TypeId}(hb:rZ P f)
    (hnone:∀(p:qP)(cap:Nat)(w:World),Calls P f #[.slice p 0 cap] w λe w'=>e=.returned (.tuple #[])/\w'=w)
    (hsort:∀(blk off cap:Nat)(zs:F6)(w:World),Go.Sort.Holds (Value.int .i64) w blk off zs.toArray->blk<w.heap.size->zs.length<4611686018427387904->
      Calls P f #[.slice (some ⟨blk,off,none⟩) zs.length cap] w λe w'=>e=.returned (.tuple #[])/\∃n os,w'=Sort.grow (Sort.putRow (Value.int .i64) (Sort.ahead w n) blk off (zs.mergeSort λx y=>decide (x<=y)).toArray) os) (l:F6) (hlen:l.length<4611686018427387904):
    gI P G f [.rs 0 0] [(0,.arr e 1 (l.map F8) none)] (.c (.U6 [])) [(0,.arr e 1 ((l.mergeSort λx y=>decide (x<=y)).map F8) none)]:=by
 refine⟨hb,λZ w Eo vs hg hz hl hargs hgs=>?_⟩
 match vs,hl with
 |[v],_=>
  have hx:=hargs 0 (.rs 0 0) v rfl rfl;have hE:Eo 0=v:=by cases hx with|rs _ _ _ hs _ hp=>exact hp _ _ _ _ rfl
  obtain⟨xs,mW,hown,hfoc,rC,hcells,hnz⟩:=hg.ok 0;rw[hE]at hown hnz;have hres:∀w' (obj:J8),O7 Z w' obj Eo (.c (.U6 [])) (.tuple #[]):=λw' obj=>.c _ _ (.U6 [] [] rfl λi c x h=>by simp at h);obtain⟨hxl,hown⟩:=hown;simp only[X0,yC]at hxl hown;have hxs:xs=l.map (Value.int .i64):=by
   apply nZ;intro i;by_cases hi:i<l.length
   .have hd:(l.map F8)[i]?=some (F8 l[i]):=by rw[P9,J9 hi];rfl
    obtain⟨_,u,hu,hr⟩:=hcells i _ (by simpa using hi) hd 0 _ rfl;have:u=.int .i64 l[i]:=by
     cases hr with
     |one h=>cases h with|cl h=>exact nC h
    grind
   .grind
  rcases hown with⟨rfl,h0⟩|⟨g,cap,cur,rfl,_,hh,hcap,hmax,hcs,htake⟩
  .have hl0:l=[]:=mD h0;subst hl0;refine(hnone none 0 w).mono λe' w' ⟨he,hw⟩=>⟨_,Z,Eo,he,?_⟩;subst hw;simp only[List.mergeSort];exact MF hg hz (hres _ _)
  .have hlt:g<w.heap.size:=(X6.1 hh).1;have hcur:∀i,i<l.length->cur[i]?=some (.int .i64 (l.getD i 0)):=λi hi=>by
    have h1:(cur.toList.take l.length)[i]?=(l.map (Value.int .i64))[i]?:=by grind
    grind
   have hH:Go.Sort.Holds (Value.int .i64) w g 0 l.toArray:=λj hj=>by
    have hj':j<l.length:=by grind
    constructor
    .have:=hcur j hj';simp only[World.cell?,hh,X9]
     grind
    .simp[World.frozen?,hh]
   refine(hsort g 0 cap l w hH hlt hlen).mono λe' w' ⟨he,n,os,hw⟩=>⟨_,Z,Eo,he,?_⟩;have hml:(l.mergeSort λx y=>decide (x<=y)).length=l.length:=by simp
   have hcell:w'.heap[g]?=some (.cells (Sort.putCells (Value.int .i64) 0 (l.mergeSort λx y=>decide (x<=y)).toArray cur) e (0,0)):=by
    rw[hw,Sort.heap_grow_old _ _ (by simpa using hlt)];simp only[Sort.putRow,Sort.mapBlock,Sort.heap_ahead,zM,hh];simp[Sort.onCells]
   have hblk:G8.blk (.arr e 1 (l.map F8) none) (Eo 0) g:=by rw[hE]
   have key:∀k,k<w.heap.size->k≠g->w'.heap[k]?=w.heap[k]?:=λk hk1 hk2=>by
    rw[hw];rw[Sort.heap_grow_old _ _ (by simpa using hk1)];simp only[Sort.putRow,Sort.mapBlock,Sort.heap_ahead,zM]
    grind
   have hks:Kept (λk=>k<w.heap.size/\k≠g) w w':=
    ⟨by rw[hw];rfl,by rw[hw];rfl,by rw[hw];rfl,by rw[hw];simp,λk hk=>key k hk.1 hk.2,λk hk=>(key k (X6.1 hk).1 (λe=>by rw[e,hh]at hk;exact nomatch hk)).trans hk⟩
   refine cD9 hg hz hblk (λc h=>by rw[hE]at h;cases h;rfl) hks (λc=>hnz g c rfl) ?_ bm1 (hres _ _);rw[hE];refine aE6 (sz:=1) (xs:=(l.mergeSort λx y=>decide (x<=y)).map (Value.int .i64)) (λ_=>rfl) Nat.one_pos ?_ (λi j a c ha hc=>?_) hnz
   .refine⟨by simp,.inr ⟨g,cap,_,by rw[hml],aF _,hcell,by rw[hml];exact hcap,hmax,by simp[Sort.putCells,hcs],?_⟩⟩;apply nZ;intro i;rw[kN,yC,P9];by_cases hi:i<(l.mergeSort λx y=>decide (x<=y)).length
    .rw[I9 hi,kM,Sort.putCells,Array.getElem?_mapIdx,hcur i (by omega)]
     grind
    .grind
   .match j,hc with
    |0,hc=>
     simp[F8]at hc;subst hc;exact⟨rfl,.int .i64 a,by simp[P9,ha],.v _⟩
    |j+1,hc=>simp[F8]at hc
def ins(x:Int):List Int->List Int
 |[]=>[x]
 |y::r=>bif decide (x<=y)then x::y::r else y::ins x r
def tN:List Int->List Int
 |[]=>[]
 |x::r=>ins x (tN r)
def aP8(x:Int):∀l:F6,(ins x l).Perm (x::l)
 |[]=>.refl _
 |y::r=>by
  simp only[ins];cases decide (x<=y)with
  |true=>grind
  |false=>exact((aP8 x r).cons y).trans (.swap x y r)
def ab1:∀l:F6,(tN l).Perm l
 |[]=>.refl _
 |x::r=>(aP8 x (tN r)).trans ((ab1 r).cons x)
def bC3(x:Int):∀l:F6,l.Pairwise (·<=·)->(ins x l).Pairwise (·<=·)
 |[],_=>by simp[ins]
 |y::r,h=>by
  simp only[ins];have h':=List.pairwise_cons.1 h;cases hd:decide (x<=y)with
  |true=>
   have hxy:=iR hd
   exact List.pairwise_cons.2 ⟨λz hz=>by
    rcases lD.1 hz with rfl|hz
    .exact hxy
    .exact Int.le_trans hxy (h'.1 z hz),h⟩
  |false=>
   have hxy:=DI hd
   exact List.pairwise_cons.2 ⟨λz hz=>by
    rcases lD.1 ((aP8 x r).mem_iff.1 hz)with rfl|hz
    .omega
    .exact h'.1 z hz,bC3 x r h'.2⟩
def bC6:∀l:F6,(tN l).Pairwise (·<=·)
 |[]=>.nil
 |x::r=>bC3 x _ (bC6 r)
def dq2{a b:F6}(ha:a.Pairwise (·<=·))(hb:b.Pairwise (·<=·))(h:a.Perm b):a=b:=
 List.Perm.eq_of_pairwise (λ_ _ _ _ h1 h2=>Int.le_antisymm h1 h2) ha hb h
def cY8(l:F6):(l.mergeSort λx y=>decide (x<=y))=tN l:=by
 have h:=List.pairwise_mergeSort (le:=λx y:Int=>decide (x<=y)) (λa b c h1 h2=>aI (Int.le_trans (iR h1) (iR h2))) (λa b=>by
  cases h:decide (a<=b)with
  |true=>rfl
  |false=>have:=DI h;simp;omega) l
 exact dq2 (h.imp λh=>iR h) (bC6 l) ((List.mergeSort_perm l _).trans (ab1 l).symm)
section
variable{P:Program}{G:aB}
def mix{α:Type}(l:List α)(p q n:Nat):List α:=l.take p++((l.drop q).take n++l.drop (p+n))
end
section
variable{P:Program}{G:aB}
def aT6:List CV->List CV->Prop
 |[],[]=>True
 |a::r,b::q=>(a=b\/∃sz,a=.sl 0 []/\b=.sl sz [])/\aT6 r q
 |_,_=>False
def bI1{Z:Zone}{w:World}:∀{cs1 cs2:G9}{vs:H6},aT6 cs1 cs2->U0 Z w cs1 vs->U0 Z w cs2 vs
 |[],[],_,_,h=>h
 |a::r,b::q,vs,hn,h=>by
  match vs,h with
  |[],h=>exact absurd h.1 (by simp)
  |v::vs,h=>
   refine U0.cons ?_ (bI1 hn.2 h.tail);have h0:=h.head;rcases hn.1 with rfl|⟨sz,rfl,rfl⟩
   .exact h0
   .generalize hds:([]:dS)=ds at h0;cases h0 with
    |nil _ a cap=>exact .nil _ _ _
    |sl _ _ b o cap f=>subst hds;exact .nil _ _ _
 |[],_::_,_,hn,_=>hn.elim
 |_::_,[],_,hn,_=>hn.elim
def holds_nil{f:FuncId}{cs1 cs2:G9}{r:CV}(h:Holds P G f cs2 r)(hn:aT6 cs1 cs2):Holds P G f cs1 r:=
 ⟨h.1,λZ w vs h1 h2 h3=>h.2 Z w vs (bI1 hn h1) h2 h3⟩
section
variable{α β:Type}[BEq α]{d:TypeDesc}{kc:α->Value}
end
end
end Go.F7
namespace Go.Proofs
open Go.Shelf Proofs.Tryz
def Tryz.cU9:Go.Shelf.Ren:=⟨λ|106=>45|213=>94|265=>162|n=>n,λ|9=>9|3=>3|n=>n,λ|n=>n⟩
def Tryz.cU8:Go.Proofs.Lays.n106 prog Tryz.cU9:={
 mixed:=by kernel_rfl
 f106:=func45.trans (congrArg some (by kernel_rfl))
 f213:=func94.trans (congrArg some (by kernel_rfl))
 f265:=func162.trans (congrArg some (by kernel_rfl))
 t3:=underlying3
 a3:=isAgg3
 z3:=sizeOf3
 v3:=zeroValue3
 t9:=underlying9
 a9:=isAgg9
 z9:=sizeOf9
 v9:=zeroValue9 }
open Go.RowKit in
def Tryz.strings_Compare(a b:ByteArray)(w:World):
    Calls prog 45 #[.string a,.string b] w λe w'=>e=.returned (.int .i64 (Lib.compareBytes a.data.toList b.data.toList))/\w'=w:=Any.strings_Compare Tryz.cU8 a b w
def Tryz.cV1:Go.Shelf.Ren:=⟨λ|122=>63|215=>113|n=>n,λ|3=>3|4=>4|n=>n,λ|n=>n⟩
def Tryz.cV0:Go.Proofs.Lays.n122 prog Tryz.cV1:={
 mixed:=by kernel_rfl
 f122:=func63.trans (congrArg some (by kernel_rfl))
 f215:=func113.trans (congrArg some (by kernel_rfl))
 t3:=underlying3
 a3:=isAgg3
 z3:=sizeOf3
 v3:=zeroValue3
 t4:=underlying4
 a4:=isAgg4
 z4:=sizeOf4
 v4:=zeroValue4 }
open Go.RowKit in
def Tryz.cmp_Compare_int(x y:Int)(w:World):
    Calls prog 63 #[.int .i64 x,.int .i64 y] w λe w'=>e=.returned (.int .i64 (Lib.compareInt x y))/\w'=w:=Any.cmp_Compare_int Tryz.cV0 x y w
def Tryz.cV2:Go.Shelf.Ren:=⟨λ|143=>229|219=>308|217=>391|225=>392|224=>393|267=>394|266=>447|314=>448|n=>n,λ|9=>9|3=>3|4=>4|5=>5|46=>108|146=>175|51=>174|n=>n,λ|1=>0|n=>n⟩
def Tryz.lays143:Go.Proofs.Lays.n143 prog Tryz.cV2:={
 mixed:=by kernel_rfl
 f143:=func229.trans (congrArg some (by kernel_rfl))
 f217:=func391.trans (congrArg some (by kernel_rfl))
 f219:=func308.trans (congrArg some (by kernel_rfl))
 f224:=func393.trans (congrArg some (by kernel_rfl))
 f225:=func392.trans (congrArg some (by kernel_rfl))
 f266:=func447.trans (congrArg some (by kernel_rfl))
 f267:=func394.trans (congrArg some (by kernel_rfl))
 f314:=func448.trans (congrArg some (by kernel_rfl))
 t3:=underlying3
 a3:=isAgg3
 z3:=sizeOf3
 v3:=zeroValue3
 t4:=underlying4
 a4:=isAgg4
 z4:=sizeOf4
 v4:=zeroValue4
 t5:=underlying5
 a5:=isAgg5
 z5:=sizeOf5
 v5:=zeroValue5
 t9:=underlying9
 a9:=isAgg9
 z9:=sizeOf9
 v9:=zeroValue9
 t46:=underlying108
 a46:=isAgg108
 z46:=sizeOf108
 v46:=zeroValue108
 t51:=underlying174
 a51:=isAgg174
 z51:=sizeOf174
 v51:=zeroValue174
 t146:=underlying175
 a146:=isAgg175
 z146:=sizeOf175
 v146:=zeroValue175
 g1:=by kernel_rfl }
open Go.RowKit Go.Lib in
def Tryz.strings_Index(s sub:ByteArray)(m:Int)(w:World)(hs:s.size<4294967281)(hm:w.cell? ⟨0,0,none⟩=some (.int .i64 m)):
    Calls prog 229 #[.string s,.string sub] w λe w'=>e=.returned (.int .i64 (Lib.index s.data.toList sub.data.toList))/\w'=w:=Any.strings_Index Tryz.lays143 s sub m w hs hm
def Tryz.cV3:Go.Shelf.Ren:=⟨λ|144=>138|143=>229|219=>308|217=>391|225=>392|224=>393|267=>394|266=>447|314=>448|n=>n,λ|9=>9|4=>4|3=>3|5=>5|46=>108|146=>175|51=>174|n=>n,λ|1=>0|n=>n⟩
def Tryz.lays144:Go.Proofs.Lays.n144 prog Tryz.cV3:={
 mixed:=by kernel_rfl
 f143:=func229.trans (congrArg some (by kernel_rfl))
 f144:=func138.trans (congrArg some (by kernel_rfl))
 f217:=func391.trans (congrArg some (by kernel_rfl))
 f219:=func308.trans (congrArg some (by kernel_rfl))
 f224:=func393.trans (congrArg some (by kernel_rfl))
 f225:=func392.trans (congrArg some (by kernel_rfl))
 f266:=func447.trans (congrArg some (by kernel_rfl))
 f267:=func394.trans (congrArg some (by kernel_rfl))
 f314:=func448.trans (congrArg some (by kernel_rfl))
 t3:=underlying3
 a3:=isAgg3
 z3:=sizeOf3
 v3:=zeroValue3
 t4:=underlying4
 a4:=isAgg4
 z4:=sizeOf4
 v4:=zeroValue4
 t5:=underlying5
 a5:=isAgg5
 z5:=sizeOf5
 v5:=zeroValue5
 t9:=underlying9
 a9:=isAgg9
 z9:=sizeOf9
 v9:=zeroValue9
 t46:=underlying108
 a46:=isAgg108
 z46:=sizeOf108
 v46:=zeroValue108
 t51:=underlying174
 a51:=isAgg174
 z51:=sizeOf174
 v51:=zeroValue174
 t146:=underlying175
 a146:=isAgg175
 z146:=sizeOf175
 v146:=zeroValue175
 g1:=by kernel_rfl }
open Go.RowKit Go.Lib in
def Tryz.strings_Contains(s sub:ByteArray)(m:Int)(w:World)(hs:s.size<4294967281)(hm:w.cell? ⟨0,0,none⟩=some (.int .i64 m)):
    Calls prog 138 #[.string s,.string sub] w λe w'=>e=.returned (.bool (Lib.contains s.data.toList sub.data.toList))/\w'=w:=Any.strings_Contains Tryz.lays144 s sub m w hs hm
def Tryz.cV4:Go.Shelf.Ren:=⟨λ|189=>69|125=>93|257=>128|128=>160|129=>161|294=>214|295=>215|296=>216|297=>217|298=>218|299=>219|216=>220|300=>221|301=>222|328=>303|329=>242|330=>243|331=>304|332=>305|215=>113|343=>389|n=>n,λ|28=>26|3=>3|46=>108|0=>0|51=>174|53=>177|4=>4|183=>238|182=>237|131=>53|5=>5|9=>9|218=>322|222=>326|228=>387|229=>388|n=>n,λ|n=>n⟩
def Tryz.lays189:Go.Proofs.Lays.n189 prog Tryz.cV4:={
 mixed:=by kernel_rfl
 f125:=func93.trans (congrArg some (by kernel_rfl))
 f128:=func160.trans (congrArg some (by kernel_rfl))
 f129:=func161.trans (congrArg some (by kernel_rfl))
 f189:=func69.trans (congrArg some (by kernel_rfl))
 f215:=func113.trans (congrArg some (by kernel_rfl))
 f216:=func220.trans (congrArg some (by kernel_rfl))
 f257:=func128.trans (congrArg some (by kernel_rfl))
 f294:=func214.trans (congrArg some (by kernel_rfl))
 f295:=func215.trans (congrArg some (by kernel_rfl))
 f296:=func216.trans (congrArg some (by kernel_rfl))
 f297:=func217.trans (congrArg some (by kernel_rfl))
 f298:=func218.trans (congrArg some (by kernel_rfl))
 f299:=func219.trans (congrArg some (by kernel_rfl))
 f300:=func221.trans (congrArg some (by kernel_rfl))
 f301:=func222.trans (congrArg some (by kernel_rfl))
 f328:=func303.trans (congrArg some (by kernel_rfl))
 f329:=func242.trans (congrArg some (by kernel_rfl))
 f330:=func243.trans (congrArg some (by kernel_rfl))
 f331:=func304.trans (congrArg some (by kernel_rfl))
 f332:=func305.trans (congrArg some (by kernel_rfl))
 f343:=func389.trans (congrArg some (by kernel_rfl))
 t0:=underlying0
 a0:=isAgg0
 z0:=sizeOf0
 v0:=zeroValue0
 t3:=underlying3
 a3:=isAgg3
 z3:=sizeOf3
 v3:=zeroValue3
 t4:=underlying4
 a4:=isAgg4
 z4:=sizeOf4
 v4:=zeroValue4
 t5:=underlying5
 a5:=isAgg5
 z5:=sizeOf5
 v5:=zeroValue5
 t9:=underlying9
 a9:=isAgg9
 z9:=sizeOf9
 v9:=zeroValue9
 t28:=underlying26
 a28:=isAgg26
 z28:=sizeOf26
 v28:=zeroValue26
 t46:=underlying108
 a46:=isAgg108
 z46:=sizeOf108
 v46:=zeroValue108
 t51:=underlying174
 a51:=isAgg174
 z51:=sizeOf174
 v51:=zeroValue174
 t53:=underlying177
 a53:=isAgg177
 z53:=sizeOf177
 v53:=zeroValue177
 t131:=underlying53
 a131:=isAgg53
 z131:=sizeOf53
 v131:=zeroValue53
 t182:=underlying237
 a182:=isAgg237
 z182:=sizeOf237
 v182:=zeroValue237
 t183:=underlying238
 a183:=isAgg238
 z183:=sizeOf238
 v183:=zeroValue238
 t218:=underlying322
 a218:=isAgg322
 z218:=sizeOf322
 v218:=zeroValue322
 t222:=underlying326
 a222:=isAgg326
 z222:=sizeOf326
 v222:=zeroValue326
 t228:=underlying387
 a228:=isAgg387
 z228:=sizeOf387
 v228:=zeroValue387
 t229:=underlying388
 a229:=isAgg388
 z229:=sizeOf388
 v229:=zeroValue388 }
open Go.Sort Go.RowKit in
def Tryz.slices_Sort_int(blk off cap:Nat)(zs:F6)(w:World)(hH:Holds (Value.int .i64) w blk off zs.toArray)(hblk:blk<w.heap.size)(hsz:zs.length<4611686018427387904):
    Calls prog 69 #[.slice (some ⟨blk,off,none⟩) zs.length cap] w λe w'=>
     e=.returned (.tuple #[])/\∃n os,w'=grow (putRow (Value.int .i64) (Sort.ahead w n) blk off (zs.mergeSort λx y=>decide (x<=y)).toArray) os:=Any.slices_Sort_int Tryz.lays189 blk off cap zs w hH hblk hsz
def Tryz.cV7:Go.Shelf.Ren:=⟨λ|17=>139|15=>230|20=>309|n=>n,λ|9=>9|23=>228|4=>4|3=>3|0=>0|21=>21|n=>n,λ|n=>n⟩
def Tryz.cV6:Go.Proofs.LaysGw.n17 prog Tryz.cV7:={
 mixed:=by kernel_rfl
 f15:=func230.trans (congrArg some (by kernel_rfl))
 f17:=func139.trans (congrArg some (by kernel_rfl))
 f20:=func309.trans (congrArg some (by kernel_rfl))
 t0:=underlying0
 a0:=isAgg0
 z0:=sizeOf0
 v0:=zeroValue0
 i0:=by kernel_rfl
 t3:=underlying3
 a3:=isAgg3
 z3:=sizeOf3
 v3:=zeroValue3
 i3:=by kernel_rfl
 t4:=underlying4
 a4:=isAgg4
 z4:=sizeOf4
 v4:=zeroValue4
 i4:=by kernel_rfl
 t9:=underlying9
 a9:=isAgg9
 z9:=sizeOf9
 v9:=zeroValue9
 i9:=by kernel_rfl
 t21:=underlying21
 a21:=isAgg21
 z21:=sizeOf21
 v21:=zeroValue21
 i21:=by kernel_rfl
 t23:=underlying228
 a23:=isAgg228
 z23:=sizeOf228
 v23:=zeroValue228
 i23:=by kernel_rfl }
open Go.RowKit Go.Lib in
def Tryz.strings_ContainsFunc_runes(g:Nat)(lb:S9)(eg:∀args w,(callFunc g args).run prog w=.ok (.enter g args) w)(p:mJ)(s:ByteArray)(w:World)(hp:PredAtRunes prog g lb p w):
    Calls prog 139 #[.string s,.func (.func g) #[] lb] w λe w'=>e=.returned (.bool (decide (0<=Lib.idxFunc p true s)))/\Below w.heap.size w w':=Any.strings_ContainsFunc_runes Tryz.cV6 g lb eg p s w hp
def Tryz.lays105_ren:Go.Shelf.Ren:=⟨λ|105=>18|212=>46|99=>47|165=>48|166=>49|170=>50|169=>51|263=>95|264=>96|206=>97|240=>98|241=>99|276=>163|277=>164|n=>n,λ|9=>9|3=>3|4=>4|20=>20|0=>0|46=>108|109=>109|5=>5|72=>115|76=>119|51=>174|146=>175|53=>177|148=>178|70=>112|37=>113|75=>118|127=>180|164=>245|80=>122|n=>n,λ|n=>n⟩
def Tryz.lays105:Go.Proofs.Lays.n105 prog Tryz.lays105_ren:={
 mixed:=by kernel_rfl
 f99:=func47.trans (congrArg some (by kernel_rfl))
 f105:=func18.trans (congrArg some (by kernel_rfl))
 f165:=func48.trans (congrArg some (by kernel_rfl))
 f166:=func49.trans (congrArg some (by kernel_rfl))
 f169:=func51.trans (congrArg some (by kernel_rfl))
 f170:=func50.trans (congrArg some (by kernel_rfl))
 f206:=func97.trans (congrArg some (by kernel_rfl))
 f212:=func46.trans (congrArg some (by kernel_rfl))
 f240:=func98.trans (congrArg some (by kernel_rfl))
 f241:=func99.trans (congrArg some (by kernel_rfl))
 f263:=func95.trans (congrArg some (by kernel_rfl))
 f264:=func96.trans (congrArg some (by kernel_rfl))
 f276:=func163.trans (congrArg some (by kernel_rfl))
 f277:=func164.trans (congrArg some (by kernel_rfl))
 t0:=underlying0
 a0:=isAgg0
 z0:=sizeOf0
 v0:=zeroValue0
 t3:=underlying3
 a3:=isAgg3
 z3:=sizeOf3
 v3:=zeroValue3
 t4:=underlying4
 a4:=isAgg4
 z4:=sizeOf4
 v4:=zeroValue4
 t5:=underlying5
 a5:=isAgg5
 z5:=sizeOf5
 v5:=zeroValue5
 t9:=underlying9
 a9:=isAgg9
 z9:=sizeOf9
 v9:=zeroValue9
 t20:=underlying20
 a20:=isAgg20
 z20:=sizeOf20
 v20:=zeroValue20
 t37:=underlying113
 a37:=isAgg113
 z37:=sizeOf113
 v37:=zeroValue113
 t46:=underlying108
 a46:=isAgg108
 z46:=sizeOf108
 v46:=zeroValue108
 t51:=underlying174
 a51:=isAgg174
 z51:=sizeOf174
 v51:=zeroValue174
 t53:=underlying177
 a53:=isAgg177
 z53:=sizeOf177
 v53:=zeroValue177
 t70:=underlying112
 a70:=isAgg112
 z70:=sizeOf112
 v70:=zeroValue112
 t72:=underlying115
 a72:=isAgg115
 z72:=sizeOf115
 v72:=zeroValue115
 t75:=underlying118
 a75:=isAgg118
 z75:=sizeOf118
 v75:=zeroValue118
 t76:=underlying119
 a76:=isAgg119
 z76:=sizeOf119
 v76:=zeroValue119
 t109:=underlying109
 a109:=isAgg109
 z109:=sizeOf109
 v109:=zeroValue109
 t127:=underlying180
 a127:=isAgg180
 z127:=sizeOf180
 v127:=zeroValue180
 t146:=underlying175
 a146:=isAgg175
 z146:=sizeOf175
 v146:=zeroValue175
 t148:=underlying178
 a148:=isAgg178
 z148:=sizeOf178
 v148:=zeroValue178
 t164:=underlying245
 a164:=isAgg245
 z164:=sizeOf245
 v164:=zeroValue245 }
def Tryz.Builder_Extra_105:Builder.Extra prog Tryz.lays105_ren:={
 sizeBuilder:=by kernel_rfl
 liesBuilder:=by kernel_rfl
 t5:=underlying5
 a5:=isAgg5
 z5:=sizeOf5
 v5:=zeroValue5
 infoByte:=by kernel_rfl
 cellsByte:=by kernel_rfl
 sizeByte:=by kernel_rfl
 neB5:=by decide }
open Go.RowKit Go.Lib in
def Tryz.strings_Repeat(s:ByteArray)(c:Nat)(w:World)(hc:c<=9223372036854775807)(hlen:s.size*c<=140737488355328):
    Calls prog 18 #[.string s,.int .i64 c] w λe w'=>e=.returned (.string ⟨(Lib.repeatL s.data.toList c).toArray⟩)/\Below w.heap.size w w':=Any.strings_Repeat Tryz.lays105 Tryz.Builder_Extra_105 s c w hc hlen
def Tryz.cV8:Go.Shelf.Ren:=⟨λ|15=>87|n=>n,λ|22=>26|3=>3|4=>4|n=>n,λ|n=>n⟩
def Tryz.laysNm215:Go.Proofs.Lays2.n15 prog Tryz.cV8:={
 mixed:=by kernel_rfl
 f15:=func87.trans (congrArg some (by kernel_rfl))
 t3:=underlying3
 a3:=isAgg3
 z3:=sizeOf3
 v3:=zeroValue3
 t4:=underlying4
 a4:=isAgg4
 z4:=sizeOf4
 v4:=zeroValue4
 t22:=underlying26
 a22:=isAgg26
 z22:=sizeOf26
 v22:=zeroValue26
 i3:=by kernel_rfl }
open Go.RowKit Go.Lib in
def Tryz.slices_Clone_int(b off n c:Nat)(zs:F6)(w:World)(hz:n<=zs.length)(hbig:n*8<=140737488355328)(hc:∀j,j<zs.length->w.cell? ⟨b,off+j,none⟩=some (.int .i64 (zs.getD j 0))):
    Calls prog 87 #[.slice (some ⟨b,off,none⟩) n c] w λe w'=>∃v',e=.returned v'/\w'.ownsRow w.heap.size 3 1 v' n ((zs.take n).map (Value.int .i64))/\v'≠.slice none 0 0/\Below w.heap.size w w':=Any.slices_Clone_int Tryz.laysNm215 b off n c zs w hz hbig hc
open Go.RowKit Go.Lib in
def Tryz.slices_Clone_int_nil(n c:Nat)(w:World):
    Calls prog 87 #[.slice none n c] w λe w'=>e=.returned (.slice none 0 0)/\w'=w:=Any.slices_Clone_int_nil Tryz.laysNm215 n c w
open Go.RowKit Go.Lib in
def Tryz.slices_Clone_int_zero(a:Addr)(c:Nat)(w:World):
    Calls prog 87 #[.slice (some a) 0 c] w λe w'=>∃v',e=.returned v'/\w'.ownsRow w.heap.size 3 1 v' 0 []/\v'≠.slice none 0 0/\Below w.heap.size w w':=Any.slices_Clone_int_zero Tryz.laysNm215 a c w
open Go.RowKit Go.Sort in
def Tryz.slices_Sort_int_none(p:qP)(cap:Nat)(w:World):
    Calls prog 69 #[.slice p 0 cap] w λe w'=>e=.returned (.tuple #[])/\w'=w:=Any.slices_Sort_int_none Tryz.lays189 p cap w
def Tryz.cW0:Go.Shelf.Ren:=⟨λ|10=>136|6=>190|n=>n,λ|22=>26|23=>3|25=>196|3=>3|4=>4|0=>0|n=>n,λ|n=>n⟩
def Tryz.cV9:Go.Proofs.SlLaysH.n10 prog Tryz.cW0:={
 mixed:=by kernel_rfl
 f6:=⟨Tryz.f190.name,by decide,func190.trans (congrArg some (by kernel_rfl))⟩
 f10:=⟨Tryz.f136.name,by decide,func136.trans (congrArg some (by kernel_rfl))⟩
 t0:=underlying0
 a0:=isAgg0
 z0:=sizeOf0
 v0:=zeroValue0
 t3:=underlying3
 a3:=isAgg3
 z3:=sizeOf3
 v3:=zeroValue3
 t4:=underlying4
 a4:=isAgg4
 z4:=sizeOf4
 v4:=zeroValue4
 t22:=underlying26
 a22:=isAgg26
 z22:=sizeOf26
 v22:=zeroValue26
 a23:=isAgg3
 z23:=sizeOf3
 t25:=underlying196
 a25:=isAgg196
 z25:=sizeOf196
 v25:=zeroValue196 }
open Go.RowKit Go.Lib Go.Sort in
def Tryz.slices_DeleteFunc{α:Type}[Inhabited α](enc:α->Value)(hO:OneCell enc)(p:α->Bool)(g:Nat)(lb:S9)(eg:∀args w,(callFunc g args).run prog w=.ok (.enter g args) w)(zr:α)(v23:∀w,(zeroValue 3).run prog w=.ok (enc zr) w)(blk off cap:Nat)(d:Array α)(w:World)(hp:PredAt prog g lb enc p w)(hpo:PredOver prog g lb enc p blk off d.size w)(hH:Holds enc w blk off d)(hsz:d.size<=9223372036854775807)(hcap:d.size<=cap):
    Calls prog 136 #[.slice (some ⟨blk,off,none⟩) d.size cap,.func (.func g) #[] lb] w λe w'=>e=.returned (.slice (some ⟨blk,off,none⟩) (d.toList.filter λx=> !p x).length cap)/\∃q,w'=putRow enc (Sort.ahead w q) blk off ((d.toList.filter λx=> !p x)++List.replicate (d.size-(d.toList.filter λx=> !p x).length) zr).toArray:=AnyE.slices_DeleteFunc Tryz.cV9 enc hO p g lb eg zr v23 blk off cap d w hp hpo hH hsz hcap
end Go.Proofs
namespace Go
abbrev l9:=@Or.inl
abbrev J5:=@Or.inr
end Go
namespace Go.Proofs.YtibiibjbmhckgaaGreatDoor
section
open Go Go.F7 Go.RowKit Proofs.Tryz
def Gw:World->Prop:=λw=>∃m,w.cell? ⟨0,0,none⟩=some (.int .i64 m)
def cell_lt{w:World}{a:Addr}{v:Value}(h:w.cell? a=some v):a.block<w.heap.size:=by
 rcases fJ a.block w.heap.size with h'|h'
 .exact h'
 .simp[World.cell?,Array.getElem?_eq_none h']at h
def Gs:∀w w',Gw w->Below w.heap.size w w'->Gw w':=by
 rintro w w' ⟨m,hm⟩ hb;exact⟨m,(hb.cell (p:=⟨0,0,none⟩) (cell_lt hm)).trans hm⟩
def cells_one{Z:Zone}{w:World}{c:CV}{x:Value}(h:Rep Z w c x)(ha:c.atom=true):x.cells=#[x]:=by
 have:=h.atom ha;cases x<;>first|rfl|(simp[Value.oneCell']at this)
def cR7{p:Prop}[Decidable p]{q:Bool}{w:World}:(if p then Result.ok (Value.bool q) w else Result.ok (Value.bool false) w)=Result.ok (Value.bool (decide p&&q)) w:=by by_cases h:p<;>simp[h]
structure Origin where
 bQ:Int
 X3:Int
 Number:Int
 deriving DecidableEq,Inhabited
def aG2(x:Origin):G9:=[I x.bQ,I x.X3,I x.Number]
structure Opn where
 ID:Int
 Day:Int
 Kind:Int
 Unit:Int
 Parent:Int
 Before:Int
 Level:Int
 Title:Str
 Mark:Str
 Origin:Origin
 deriving DecidableEq,Inhabited
abbrev F5:=List Opn
def G7(x:Opn):G9:=[I x.ID,I x.Day,I x.Kind,I x.Unit,I x.Parent,I x.Before,I x.Level,S x.Title,S x.Mark,I x.Origin.bQ,I x.Origin.X3,I x.Origin.Number]
structure XR where
 ID:Int
 Parent:Int
 Level:Int
 Title:Str
 Mark:Str
 deriving DecidableEq,Inhabited
def cv0(x:XR):G9:=[I x.ID,I x.Parent,I x.Level,S x.Title,S x.Mark]
structure Branch where
 Unit:XR
 Kids:List Int
 deriving DecidableEq,Inhabited
abbrev X8:=List Branch
def I4(x:Branch):G9:=[I x.Unit.ID,I x.Unit.Parent,I x.Unit.Level,S x.Unit.Title,S x.Unit.Mark,.sl 1 (x.Kids.map F8)]
structure Tree where
 Q7:List Int
 Branches:List Branch
 deriving DecidableEq,Inhabited
abbrev KW:=Option (Tree×Int)
def gW(x:Tree):G9:=[.sl 1 (x.Q7.map F8),.sl 6 (x.Branches.map I4)]
structure Marking where
 Mark:Str
 Unit:Int
 deriving DecidableEq,Inhabited
def LK(x:Marking):G9:=[S x.Mark,I x.Unit]
structure Came where
 Unit:Int
 Origin:Origin
 deriving DecidableEq,Inhabited
abbrev N7:=List Came
def N9(x:Came):G9:=[I x.Unit,I x.Origin.bQ,I x.Origin.X3,I x.Origin.Number]
def cE8(x y:Opn):(x==y)=((x.ID==y.ID)&&(x.Day==y.Day)&&(x.Kind==y.Kind)&&(x.Unit==y.Unit)&&(x.Parent==y.Parent)&&(x.Before==y.Before)&&(x.Level==y.Level)&&(x.Title==y.Title)&&(x.Mark==y.Mark)&&(x.Origin.bQ==y.Origin.bQ)&&(x.Origin.X3==y.Origin.X3)&&(x.Origin.Number==y.Origin.Number)):=by
 obtain⟨q1,q2,q3,q4,q5,q6,q7,q8,q9,⟨q10,q11,q12⟩⟩:=x;obtain⟨q13,q14,q15,q16,q17,q18,q19,q20,q21,⟨q22,q23,q24⟩⟩:=y;rw[Bool.eq_iff_iff];simp[Origin.mk.injEq,Opn.mk.injEq,and_assoc]
def ah2(x y:Opn){a b:Operand}{ty z:TypeId}:fD prog Gw (.binOp .eql 33 a b z) ty [.c (.agg [I x.ID,I x.Day,I x.Kind,I x.Unit,I x.Parent,I x.Before,I x.Level,S x.Title,S x.Mark,I x.Origin.bQ,I x.Origin.X3,I x.Origin.Number]),.c (.agg [I y.ID,I y.Day,I y.Kind,I y.Unit,I y.Parent,I y.Before,I y.Level,S y.Title,S y.Mark,I y.Origin.bQ,I y.Origin.X3,I y.Origin.Number])] [] (.c (B (x==y))) []:=
 cD1 (xs:=[.int .i64 x.ID,.int .i64 x.Day,.int .i64 x.Kind,.int .i64 x.Unit,.int .i64 x.Parent,.int .i64 x.Before,.int .i64 x.Level,.string ⟨⟨x.Title⟩⟩,.string ⟨⟨x.Mark⟩⟩,.int .i64 x.Origin.bQ,.int .i64 x.Origin.X3,.int .i64 x.Origin.Number]) (ys:=[.int .i64 y.ID,.int .i64 y.Day,.int .i64 y.Kind,.int .i64 y.Unit,.int .i64 y.Parent,.int .i64 y.Before,.int .i64 y.Level,.string ⟨⟨y.Title⟩⟩,.string ⟨⟨y.Mark⟩⟩,.int .i64 y.Origin.bQ,.int .i64 y.Origin.X3,.int .i64 y.Origin.Number]) rfl rfl (by kernel_rfl) λw=>by
  rw[cE8];simp[run_eql_struct,underlying3,underlying9,underlying31,underlying33,go_sem];simp only[cR7];congr 2;rw[Bool.eq_iff_iff];simp[and_assoc,or_assoc]
def bo6{f:FuncId}{args:G9}{r:CV}{u:Value}(hb:rZ prog f)(hr:r=.v u)
    (h:∀(Z:Zone)(w:World)(vs:H6),U0 Z w args vs->(∀b o,Z b o->b<w.heap.size)->Gw w->Calls prog f vs.toArray w λe w'=>e=.returned u/\Below w.heap.size w w'):Holds prog Gw f args r:=
 aO0 hb λZ w vs h1 h2 h3=>(h Z w vs h1 h2 h3).mono λ_ _ ⟨he,hw⟩=>
  ⟨u,Z,he,hr▸ .v u,λ_ _ hz=>hz,λb o hz=>⟨.inl hz,aH (h2 b o hz) hw.size⟩,hw⟩
theorem vS{Z:Zone}{w:World}{x y:Value}(h:Rep Z w (.v x) y):y=x:=by cases h;rfl
def ag6(s sub:Str):U7:=bif decide (s.length<4294967281)then some (Lib.contains s sub)else none
def bV8{s sub:Str}{r:Bool}(h:ag6 s sub=some r):Holds prog Gw 138 [S s,S sub] (B r):=by
 refine mV h λhl h=>?_;refine bo6 (u:=.bool r) ⟨_,func138,by decide,rfl⟩ rfl λZ w vs h1 h2 h3=>?_
 match vs,h1 with
 |[x,y],h1=>
  have e1:=vS h1.head;have e2:=vS h1.tail.head;subst e1;subst e2;obtain⟨m,hm⟩:=h3;refine(Tryz.strings_Contains ⟨⟨s⟩⟩ ⟨⟨sub⟩⟩ m w (iR hl) hm).mono λe w' ⟨he,hw⟩=>⟨he.trans ?_,hw▸Below.refl _ _⟩;rw[<-jJ h]
def wK(lo:Nat)(x:Nat):Bool:=decide (x<lo) || decide (126<x)
def cs3(w:World):PredAtRunes prog 310 #[] (wK 32) w:=λW r _ _=>by
 unfold FnGives;by_cases h1:r<32<;>by_cases h2:126<r
 all_goals
  have z1:(r:Int)<32↔r<32:=by omega
  have z2:(r:Int)>126↔126<r:=by omega
  go_enter func310,ntmps310
  go_wp2
  all_goals first|(exfalso;omega)|(go_ret;exact⟨by simp[wK,h1,h2],0,rfl⟩)
def cr8(w:World):PredAtRunes prog 140 #[] (wK 32) w:=λW r _ _=>by
 unfold FnGives;by_cases h1:r<32<;>by_cases h2:126<r
 all_goals
  have z1:(r:Int)<32↔r<32:=by omega
  have z2:(r:Int)>126↔126<r:=by omega
  go_enter func140,ntmps140
  go_wp2
  all_goals first|(exfalso;omega)|(go_ret;exact⟨by simp[wK,h1,h2],0,rfl⟩)
def cr9(w:World):PredAtRunes prog 311 #[] (wK 33) w:=λW r _ _=>by
 unfold FnGives;by_cases h1:r<33<;>by_cases h2:126<r
 all_goals
  have z1:(r:Int)<33↔r<33:=by omega
  have z2:(r:Int)>126↔126<r:=by omega
  go_enter func311,ntmps311
  go_wp2
  all_goals first|(exfalso;omega)|(go_ret;exact⟨by simp[wK,h1,h2],0,rfl⟩)
def cr7(w:World):PredAtRunes prog 141 #[] (wK 33) w:=λW r _ _=>by
 unfold FnGives;by_cases h1:r<33<;>by_cases h2:126<r
 all_goals
  have z1:(r:Int)<33↔r<33:=by omega
  have z2:(r:Int)>126↔126<r:=by omega
  go_enter func141,ntmps141
  go_wp2
  all_goals first|(exfalso;omega)|(go_ret;exact⟨by simp[wK,h1,h2],0,rfl⟩)
def xJ(lo:Nat)(s:Str):U7:=some (decide (0<=Lib.idxFunc (wK lo) true ⟨⟨s⟩⟩))
def ax4{f lo:Nat}{s:Str}{r:Bool}(ha:∀w,PredAtRunes prog f #[] (wK lo) w)(he:∀args w,(callFunc f args).run prog w=.ok (.enter f args) w)(h:xJ lo s=some r):Holds prog Gw 139 [S s,.fn f []] (B r):=by
 refine bo6 (u:=.bool r) ⟨_,func139,by decide,rfl⟩ rfl λZ w vs h1 h2 h3=>?_
 match vs,h1 with
 |[x,y],h1=>
  have e1:=vS h1.head;have e2:=h1.tail.head;subst e1;cases e2 with
  |fn _ _ us hl _=>
   have:us=[]:=by cases us with|nil=>rfl|cons=>simp at hl
   subst this;refine(Tryz.strings_ContainsFunc_runes f #[] he (wK lo) _ w (ha w)).mono λe w' ⟨he,hw⟩=>⟨he.trans ?_,hw⟩;rw[<-jJ h]
def di5{s:Str}{r:Bool}(h:xJ 32 s=some r):Holds prog Gw 139 [S s,.fn 310 []] (B r):=ax4 cs3 (enters_of func310 (by kernel_rfl) rfl) h
def di3{s:Str}{r:Bool}(h:xJ 32 s=some r):Holds prog Gw 139 [S s,.fn 140 []] (B r):=ax4 cr8 (enters_of func140 (by kernel_rfl) rfl) h
def di4{s:Str}{r:Bool}(h:xJ 33 s=some r):Holds prog Gw 139 [S s,.fn 311 []] (B r):=ax4 cr9 (enters_of func311 (by kernel_rfl) rfl) h
def di2{s:Str}{r:Bool}(h:xJ 33 s=some r):Holds prog Gw 139 [S s,.fn 141 []] (B r):=ax4 cr7 (enters_of func141 (by kernel_rfl) rfl) h
def ba9(l:F6):qQ:=bif decide (l.length<4611686018427387904)then some (tN l)else none
def dp0{l r:F6}(h:ba9 l=some r):gI prog Gw 69 [.rs 0 0] [(0,.arr 3 1 (l.map F8) none)] (.c (.U6 [])) [(0,.arr 3 1 (r.map F8) none)]:=by
 refine mV h λhl h=>?_;rw[<-jJ h,<-cY8];exact cD5 ⟨_,func69,by decide,rfl⟩ (λp cap w=>Tryz.slices_Sort_int_none p cap w) (λblk off cap zs w h1 h2 h3=>Tryz.slices_Sort_int blk off cap zs w h1 h2 h3) l (iR hl)
end
section
open Go Go.F7 Proofs.Tryz
set_option maxRecDepth 10000
set_option maxHeartbeats 400000
abbrev be5(y:Bool):CV:=B y
def QD(n:Int)(low:Int)(high:Int):U7:=bif decide (low<=n)then some (decide (n<=high))else some (false)
def aj0{n:Int}{low:Int}{high:Int}{r:Bool}(hF:QD n low high=some r):Holds prog Gw 223 [I n,I low,I high] (be5 r):=by
 refine V9 O9 mixed func223 (by decide) rfl (I8 rfl) ?_;refine P6 ?_;refine C9 (λh1=>?_) (λh1=>?_)
 .have hF:=D6 h1 hF;exact l9 ⟨rfl,congrArg (Option.map be5) hF⟩
 .have hF:=D5 h1 hF;exact l9 ⟨rfl,congrArg (Option.map be5) hF⟩
abbrev QA(y:Bool):CV:=B y
def aB0(s:Str):U7:=bif decide ((s.length:Int)<1)then some (false)else(bif decide ((s.length:Int)>64)then some (false)else(Option.bind (ix s 0) λb3=>bif ((b3.toNat:Int)==32)then some (false)else(Option.bind (ix s (IntKind.i64.wrap ((s.length:Int)-1))) λb6=>bif ((b6.toNat:Int)==32)then some (false)else(Option.bind (ag6 s ([32,32]:Str)) λy9=>bif y9 then some (false)else(Option.bind (xJ 32 s) λnY=>some ((!nY)))))))
def cc3{s:Str}{r:Bool}(hF:aB0 s=some r):Holds prog Gw 231 [S s] (QA r):=by
 refine V9 O9 mixed func231 (by decide) rfl (I8 rfl) ?_;refine P6 ?_;refine C9 (λh1=>?_) (λh1=>?_)
 .have hF:=D6 h1 hF;exact l9 ⟨rfl,congrArg (Option.map QA) hF⟩
 .have hF:=D5 h1 hF;refine C9 (λh2=>?_) (λh2=>?_)
  .have hF:=D6 h2 hF;exact l9 ⟨rfl,congrArg (Option.map QA) hF⟩
  .have hF:=D5 h2 hF;refine l9 ?_;refine E5 hF λb3 h4 hF=>?_;refine⟨aT h4,_,ar7 h4,?_⟩;refine C9 (λh5=>?_) (λh5=>?_)
   .have hF:=D6 h5 hF;exact l9 ⟨rfl,congrArg (Option.map QA) hF⟩
   .have hF:=D5 h5 hF;refine l9 ?_;refine E5 hF λb6 h7 hF=>?_;refine⟨aT h7,_,ar7 h7,?_⟩;refine C9 (λh8=>?_) (λh8=>?_)
    .have hF:=D6 h8 hF;exact l9 ⟨rfl,congrArg (Option.map QA) hF⟩
    .have hF:=D5 h8 hF;refine E5 hF λy9 h10 hF=>?_;refine l9 ⟨_,bV8 h10,rfl,?_⟩;refine C9 (λh11=>?_) (λh11=>?_)
     .have hF:=D6 h11 hF;exact l9 ⟨rfl,congrArg (Option.map QA) hF⟩
     .have hF:=D5 h11 hF;refine E5 hF λnY h13 hF=>?_;refine l9 ⟨_,di5 h13,rfl,?_⟩;exact l9 ⟨rfl,congrArg (Option.map QA) hF⟩
abbrev bd9(y:Bool):CV:=B y
def XB(s:Str):U7:=Option.bind (QD (s.length:Int) 1 64) λy1=>bif y1 then(Option.bind (xJ 33 s) λy4=>some ((!y4)))else some (false)
def cc2{s:Str}{r:Bool}(hF:XB s=some r):Holds prog Gw 232 [S s] (bd9 r):=by
 refine V9 O9 mixed func232 (by decide) rfl (I8 rfl) ?_;refine P6 ?_;refine E5 hF λy1 h2 hF=>?_;refine l9 ⟨_,aj0 h2,rfl,?_⟩;refine C9 (λh3=>?_) (λh3=>?_)
 .have hF:=D6 h3 hF;refine E5 hF λy4 h5 hF=>?_;refine l9 ⟨_,di4 h5,rfl,?_⟩;exact l9 ⟨rfl,congrArg (Option.map bd9) hF⟩
 .have hF:=D5 h3 hF;exact l9 ⟨rfl,congrArg (Option.map bd9) hF⟩
abbrev WW(y:Bool):CV:=B y
def WX(parent:Int)(child:Int):U7:=Option.bind (QD parent 1 4) λy1=>bif (!y1)then some (false)else(Option.bind (QD child 1 4) λy4=>bif (!y4)then some (false)else(bif decide (child>parent)then some (true)else(bif (parent==2)then some ((child==2))else some (false))))
def b21{parent:Int}{child:Int}{r:Bool}(hF:WX parent child=some r):Holds prog Gw 131 [I parent,I child] (WW r):=by
 refine V9 O9 mixed func131 (by decide) rfl (I8 rfl) ?_;refine P6 ?_;refine E5 hF λy1 h2 hF=>?_;refine l9 ⟨_,aj0 h2,rfl,?_⟩;refine C9 (λh3=>?_) (λh3=>?_)
 .have hF:=D6 h3 hF;exact l9 ⟨rfl,congrArg (Option.map WW) hF⟩
 .have hF:=D5 h3 hF;refine E5 hF λy4 h5 hF=>?_;refine l9 ⟨_,aj0 h5,rfl,?_⟩;refine C9 (λh6=>?_) (λh6=>?_)
  .have hF:=D6 h6 hF;exact l9 ⟨rfl,congrArg (Option.map WW) hF⟩
  .have hF:=D5 h6 hF;refine P6 ?_;refine C9 (λh7=>?_) (λh7=>?_)
   .have hF:=D6 h7 hF;exact l9 ⟨rfl,congrArg (Option.map WW) hF⟩
   .have hF:=D5 h7 hF;refine C9 (λh8=>?_) (λh8=>?_)
    .have hF:=D6 h8 hF;exact l9 ⟨rfl,congrArg (Option.map WW) hF⟩
    .have hF:=D5 h8 hF;exact l9 ⟨rfl,congrArg (Option.map WW) hF⟩
abbrev ay0(y:Int):CV:=I y
def PO(s:List Branch)(f:Branch->Option Bool):Nat->Int->Option (Int)
 |0,_=>none
 |fu1+1,v1=>bif decide (v1<((s.map I4).length:Int))then(Option.bind (ix s v1) λx3=>Option.bind (f x3) λy5=>bif y5 then some (v1)else PO s f fu1 (IntKind.i64.wrap (v1+1)))else some ((-1))
def bX5(N:Nat)(s:X8)(f:Branch->U7):gQ:=PO s f N 0
def dn9{N:Nat}{s:X8}{f:Branch->U7}{r:Int}{iD:FuncId}{iC:G9}(pX:∀z0 y,f z0=some y->Holds prog Gw iD (.agg (I4 z0)::iC) (B y))(hF:bX5 N s f=some r):Holds prog Gw 224 [.sl 6 (s.map I4),.fn iD iC] (ay0 r):=by
 refine V9 O9 mixed func224 (by decide) rfl (I8 rfl) ?_;refine iE (λp:Nat×Int=>[(0,.c (.sl 6 (s.map I4))),(1,.c (.fn iD iC)),(7,.c (I ((s.map I4).length:Int))),(8,.c (I p.2))]) (λ_=>[]) (λp=>PO s f p.1 p.2=some r) (λp=>p.1) (N,0) hF ⟨rfl,rfl,rfl,rfl,trivial⟩ trivial ?_;rintro⟨fu1,v1⟩ hF;cases fu1 with
 |zero=>exact nomatch hF
 |succ fu1=>
  refine P6 ?_;refine C9 (λh2=>?_) (λh2=>?_)
  .have hF:=D6 h2 hF;refine P6 ?_;refine E5 hF λx3 h4 hF=>?_;refine⟨aT h4,.inl rfl,_,bK I4 h4,?_⟩;refine E5 hF λy5 h6 hF=>?_;refine l9 ⟨_,pX _ _ h6,rfl,?_⟩;refine C9 (λh7=>?_) (λh7=>?_)
   .have hF:=D6 h7 hF;exact l9 ⟨rfl,congrArg (Option.map ay0) hF⟩
   .have hF:=D5 h7 hF;exact⟨(fu1,(IntKind.i64.wrap (v1+1))),aP _,hF,⟨rfl,rfl,rfl,rfl,trivial⟩,trivial⟩
  .have hF:=D5 h2 hF;exact l9 ⟨rfl,congrArg (Option.map ay0) hF⟩
abbrev ah7(s:X8)(f:Branch->U7):gQ:=bX5 (s.length+1) s f
def ba4{s:X8}{f:Branch->U7}{r:Int}{iD:FuncId}{iC:G9}(pX:∀z0 y,f z0=some y->Holds prog Gw iD (.agg (I4 z0)::iC) (B y))(h:ah7 s f=some r):Holds prog Gw 224 [.sl 6 (s.map I4),.fn iD iC] (ay0 r):=dn9 pX h
abbrev ca6(y:Bool):CV:=B y
def bd5(b:Branch)(c0:Int):U7:=some ((b.Unit.ID==c0))
def dz0{b:Branch}{c0:Int}{r:Bool}(hF:bd5 b c0=some r):Holds prog Gw 312 [.agg (I4 b),.pi [I c0] 0] (ca6 r):=by
 refine V9 O9 mixed func312 (by decide) rfl (I8 rfl) ?_;refine l9 ?_;exact l9 ⟨rfl,congrArg (Option.map ca6) hF⟩
abbrev ca7(y:Int):CV:=I y
def ai7(t:Tree)(id:Int):gQ:=Option.bind (ah7 t.Branches (λz0=>bd5 z0 id)) λy1=>some (y1)
def cb4{t:Tree}{id:Int}{r:Int}(hF:ai7 t id=some r):Holds prog Gw 235 [.agg (gW t),I id] (ca7 r):=by
 refine V9 O9 mixed func235 (by decide) rfl (I8 rfl) ?_;refine l9 ?_;refine l9 ?_;refine E5 hF λy1 h2 hF=>?_;refine l9 ⟨_,ba4 (λ_ _ h=>dz0 h) h2,rfl,?_⟩;exact l9 ⟨rfl,congrArg (Option.map ca7) hF⟩
abbrev bW8(y:Bool):CV:=B y
def DZ(s:X8)(f:Branch->U7):U7:=Option.bind (ah7 s f) λy1=>some (decide (y1>=0))
def ax8{s:X8}{f:Branch->U7}{r:Bool}{iD:FuncId}{iC:G9}(pX:∀z0 y,f z0=some y->Holds prog Gw iD (.agg (I4 z0)::iC) (B y))(hF:DZ s f=some r):Holds prog Gw 233 [.sl 6 (s.map I4),.fn iD iC] (bW8 r):=by
 refine V9 O9 mixed func233 (by decide) rfl (I8 rfl) ?_;refine E5 hF λy1 h2 hF=>?_;refine l9 ⟨_,ba4 pX h2,rfl,?_⟩;exact l9 ⟨rfl,congrArg (Option.map bW8) hF⟩
abbrev b26(y:Bool):CV:=B y
def JO(b:Branch)(c0:XR):U7:=some ((b.Unit.Mark==c0.Mark))
def az3{b:Branch}{c0:XR}{r:Bool}(hF:JO b c0=some r):Holds prog Gw 234 [.agg (I4 b),.pi (cv0 c0) 0] (b26 r):=by
 refine V9 O9 mixed func234 (by decide) rfl (I8 rfl) ?_;refine l9 ?_;exact l9 ⟨rfl,congrArg (Option.map b26) hF⟩
abbrev kZ(y:Int):CV:=I y
def ai5(t:Tree)(i:Int):gQ:=Option.bind (ix t.Branches i) λx1=>Option.bind (QD x1.Unit.ID 1 1073741824) λy3=>bif (!y3)then some (2)else(Option.bind (QD x1.Unit.Level 1 4) λy6=>bif (!y6)then some (2)else(bif decide (i>0)then(Option.bind (ix t.Branches (IntKind.i64.wrap (i-1))) λx10=>bif decide (x1.Unit.ID<=x10.Unit.ID)then some (5)else(Option.bind (aB0 x1.Unit.Title) λy13=>bif (!y13)then some (4)else(bif (!(x1.Unit.Mark==([]:Str)))then(Option.bind (XB x1.Unit.Mark) λKE=>bif (!KE)then some (1)else(bif (!(x1.Unit.Mark==([]:Str)))then(Option.bind (slc t.Branches 0 i) λy21=>Option.bind (DZ y21 (λz0=>JO z0 x1.Unit)) λy23=>bif y23 then some (19)else some (0))else some (0)))else(bif (!(x1.Unit.Mark==([]:Str)))then(Option.bind (slc t.Branches 0 i) λy27=>Option.bind (DZ y27 (λz0=>JO z0 x1.Unit)) λy29=>bif y29 then some (19)else some (0))else some (0)))))else(Option.bind (aB0 x1.Unit.Title) λy32=>bif (!y32)then some (4)else(bif (!(x1.Unit.Mark==([]:Str)))then(Option.bind (XB x1.Unit.Mark) λy36=>bif (!y36)then some (1)else(bif (!(x1.Unit.Mark==([]:Str)))then(Option.bind (slc t.Branches 0 i) λEP=>Option.bind (DZ EP (λz0=>JO z0 x1.Unit)) λy42=>bif y42 then some (19)else some (0))else some (0)))else(bif (!(x1.Unit.Mark==([]:Str)))then(Option.bind (slc t.Branches 0 i) λy46=>Option.bind (DZ y46 (λz0=>JO z0 x1.Unit)) λy48=>bif y48 then some (19)else some (0))else some (0))))))
def du9{t:Tree}{i:Int}{r:Int}(hF:ai5 t i=some r):Holds prog Gw 144 [.agg (gW t),I i] (kZ r):=by
 refine V9 O9 mixed func144 (by decide) rfl (I8 rfl) ?_;refine l9 ?_;refine E5 hF λx1 h2 hF=>?_;refine⟨aT h2,.inl rfl,_,bK I4 h2,?_⟩;refine l9 ?_;refine P6 ?_;refine P6 ?_;refine E5 hF λy3 h4 hF=>?_;refine l9 ⟨_,aj0 h4,rfl,?_⟩;refine C9 (λh5=>?_) (λh5=>?_)
 .have hF:=D6 h5 hF;exact l9 ⟨rfl,congrArg (Option.map kZ) hF⟩
 .have hF:=D5 h5 hF;refine E5 hF λy6 h7 hF=>?_;refine l9 ⟨_,aj0 h7,rfl,?_⟩;refine C9 (λh8=>?_) (λh8=>?_)
  .have hF:=D6 h8 hF;exact l9 ⟨rfl,congrArg (Option.map kZ) hF⟩
  .have hF:=D5 h8 hF;refine P6 ?_;refine C9 (λh9=>?_) (λh9=>?_)
   .have hF:=D6 h9 hF;refine E5 hF λx10 h11 hF=>?_;refine⟨aT h11,.inl rfl,_,bK I4 h11,?_⟩;refine C9 (by kernel_rfl) ?_;refine C9 (λh12=>?_) (λh12=>?_)
    .have hF:=D6 h12 hF;exact l9 ⟨rfl,congrArg (Option.map kZ) hF⟩
    .have hF:=D5 h12 hF;refine E5 hF λy13 dL hF=>?_;refine l9 ⟨_,cc3 dL,rfl,?_⟩;refine C9 (λh15=>?_) (λh15=>?_)
     .have hF:=D6 h15 hF;exact l9 ⟨rfl,congrArg (Option.map kZ) hF⟩
     .have hF:=D5 h15 hF;refine P6 ?_;refine C9 (λh16=>?_) (λh16=>?_)
      .have hF:=D6 h16 hF;refine E5 hF λKE h18 hF=>?_;refine l9 ⟨_,cc2 h18,rfl,?_⟩;refine C9 (λh19=>?_) (λh19=>?_)
       .have hF:=D6 h19 hF;exact l9 ⟨rfl,congrArg (Option.map kZ) hF⟩
       .have hF:=D5 h19 hF;refine P6 ?_;refine C9 (λh20=>?_) (λh20=>?_)
        .have hF:=D6 h20 hF;refine E5 hF λy21 h22 hF=>?_;refine J5 ⟨[],0,_,_,_,_,rfl,rfl,MC (cf:=I4) aB1.u xQ h22,rfl,?_⟩;refine E5 hF λy23 GU hF=>?_;refine l9 ⟨_,ax8 (λ_ _ h=>az3 h) GU,rfl,?_⟩;refine C9 (λvH=>?_) (λvH=>?_)
         .have hF:=D6 vH hF;exact l9 ⟨rfl,congrArg (Option.map kZ) hF⟩
         .have hF:=D5 vH hF;exact l9 ⟨rfl,congrArg (Option.map kZ) hF⟩
        .have hF:=D5 h20 hF;exact l9 ⟨rfl,congrArg (Option.map kZ) hF⟩
      .have hF:=D5 h16 hF;refine P6 ?_;refine C9 (λnN=>?_) (λnN=>?_)
       .have hF:=D6 nN hF;refine E5 hF λy27 h28 hF=>?_;refine J5 ⟨[],0,_,_,_,_,rfl,rfl,MC (cf:=I4) aB1.u xQ h28,rfl,?_⟩;refine E5 hF λy29 h30 hF=>?_;refine l9 ⟨_,ax8 (λ_ _ h=>az3 h) h30,rfl,?_⟩;refine C9 (λh31=>?_) (λh31=>?_)
        .have hF:=D6 h31 hF;exact l9 ⟨rfl,congrArg (Option.map kZ) hF⟩
        .have hF:=D5 h31 hF;exact l9 ⟨rfl,congrArg (Option.map kZ) hF⟩
       .have hF:=D5 nN hF;exact l9 ⟨rfl,congrArg (Option.map kZ) hF⟩
   .have hF:=D5 h9 hF;refine C9 (by kernel_rfl) ?_;refine E5 hF λy32 BO hF=>?_;refine l9 ⟨_,cc3 BO,rfl,?_⟩;refine C9 (λwU=>?_) (λwU=>?_)
    .have hF:=D6 wU hF;exact l9 ⟨rfl,congrArg (Option.map kZ) hF⟩
    .have hF:=D5 wU hF;refine P6 ?_;refine C9 (λh35=>?_) (λh35=>?_)
     .have hF:=D6 h35 hF;refine E5 hF λy36 h37 hF=>?_;refine l9 ⟨_,cc2 h37,rfl,?_⟩;refine C9 (λh38=>?_) (λh38=>?_)
      .have hF:=D6 h38 hF;exact l9 ⟨rfl,congrArg (Option.map kZ) hF⟩
      .have hF:=D5 h38 hF;refine P6 ?_;refine C9 (λMZ=>?_) (λMZ=>?_)
       .have hF:=D6 MZ hF;refine E5 hF λEP tH hF=>?_;refine J5 ⟨[],0,_,_,_,_,rfl,rfl,MC (cf:=I4) aB1.u xQ tH,rfl,?_⟩;refine E5 hF λy42 h43 hF=>?_;refine l9 ⟨_,ax8 (λ_ _ h=>az3 h) h43,rfl,?_⟩;refine C9 (λNC=>?_) (λNC=>?_)
        .have hF:=D6 NC hF;exact l9 ⟨rfl,congrArg (Option.map kZ) hF⟩
        .have hF:=D5 NC hF;exact l9 ⟨rfl,congrArg (Option.map kZ) hF⟩
       .have hF:=D5 MZ hF;exact l9 ⟨rfl,congrArg (Option.map kZ) hF⟩
     .have hF:=D5 h35 hF;refine P6 ?_;refine C9 (λh45=>?_) (λh45=>?_)
      .have hF:=D6 h45 hF;refine E5 hF λy46 h47 hF=>?_;refine J5 ⟨[],0,_,_,_,_,rfl,rfl,MC (cf:=I4) aB1.u xQ h47,rfl,?_⟩;refine E5 hF λy48 ZP hF=>?_;refine l9 ⟨_,ax8 (λ_ _ h=>az3 h) ZP,rfl,?_⟩;refine C9 (λh50=>?_) (λh50=>?_)
       .have hF:=D6 h50 hF;exact l9 ⟨rfl,congrArg (Option.map kZ) hF⟩
       .have hF:=D5 h50 hF;exact l9 ⟨rfl,congrArg (Option.map kZ) hF⟩
      .have hF:=D5 h45 hF;exact l9 ⟨rfl,congrArg (Option.map kZ) hF⟩
abbrev QB(y:Int):CV:=I y
def ai9(t:Tree)(i:Int):gQ:=Option.bind (ix t.Branches i) λx1=>bif (x1.Unit.Parent==0)then(bif (x1.Unit.Level !=1)then some (18)else some (0))else(Option.bind (ai7 t x1.Unit.Parent) λy5=>bif decide (y5<0)then some (7)else(bif (x1.Unit.Level==1)then some (18)else(Option.bind (ix t.Branches y5) λx9=>Option.bind (WX x9.Unit.Level x1.Unit.Level) λbD=>bif (!bD)then some (18)else some (0))))
def dA1{t:Tree}{i:Int}{r:Int}(hF:ai9 t i=some r):Holds prog Gw 145 [.agg (gW t),I i] (QB r):=by
 refine V9 O9 mixed func145 (by decide) rfl (I8 rfl) ?_;refine l9 ?_;refine E5 hF λx1 h2 hF=>?_;refine⟨aT h2,.inl rfl,_,bK I4 h2,?_⟩;refine l9 ?_;refine C9 (λh3=>?_) (λh3=>?_)
 .have hF:=D6 h3 hF;refine C9 (λh4=>?_) (λh4=>?_)
  .have hF:=D6 h4 hF;exact l9 ⟨rfl,congrArg (Option.map QB) hF⟩
  .have hF:=D5 h4 hF;exact l9 ⟨rfl,congrArg (Option.map QB) hF⟩
 .have hF:=D5 h3 hF;refine E5 hF λy5 h6 hF=>?_;refine l9 ⟨_,cb4 h6,rfl,?_⟩;refine P6 ?_;refine C9 (λh7=>?_) (λh7=>?_)
  .have hF:=D6 h7 hF;exact l9 ⟨rfl,congrArg (Option.map QB) hF⟩
  .have hF:=D5 h7 hF;refine P6 ?_;refine C9 (λh8=>?_) (λh8=>?_)
   .have hF:=D6 h8 hF;refine C9 (by kernel_rfl) ?_;exact l9 ⟨rfl,congrArg (Option.map QB) hF⟩
   .have hF:=D5 h8 hF;refine E5 hF λx9 h10 hF=>?_;refine⟨aT h10,.inl rfl,_,bK I4 h10,?_⟩;refine E5 hF λbD h12 hF=>?_;refine l9 ⟨_,b21 h12,rfl,?_⟩;refine C9 (by kernel_rfl) ?_;refine C9 (λh13=>?_) (λh13=>?_)
    .have hF:=D6 h13 hF;exact l9 ⟨rfl,congrArg (Option.map QB) hF⟩
    .have hF:=D5 h13 hF;exact l9 ⟨rfl,congrArg (Option.map QB) hF⟩
def a88:{p:Array Nat×Code×Code // (zB (Tryz.f282.body.getD .skip))[0]?=some p}:=⟨(_,_,_),rfl⟩
def a81(R:Loop):Prop:=R.params=a88.1.1/\R.assign=a88.1.2.1/\R.body=a88.1.2.2/\R.tmps.size=13
theorem dm8{R:Loop}(h:a81 R):1=R.params.size:=by rw[h.1];rfl
def a90(o2:F6)(a7:Int):qQ:=bif decide (o2.length+([a7]:F6).length<=4294967296)then some ((o2++([a7]:F6)))else none
def dm7{o2:F6}{a7:Int}{r:F6}{l:Nat}{R:Loop}(hR:a81 R)(hF:a90 o2 a7=some r):XU prog Gw l R (oI [(2,.pm 1 0 0)] 13 0) [.c (I a7)] [(0,.lp l R .on),(0,.varx [.rs 2 0]),(0,.arr 3 1 (o2.map F8) none)] (.c (.v (.bool true))) [(0,.lp l R .on),(0,.varx [.rs 2 1]),(1,.arr 3 1 (r.map F8) none)]:=by
 refine aJ2 [2] O9 mixed 0 hR.1 hR.2.1 hR.2.2.1 hR.2.2.2 rfl ?_;refine⟨rfl,?_⟩;refine l9 ?_;refine l9 ?_;refine mV hF λh1 hF=>?_;refine J5 ⟨[(2147614720,0)],0,_,_,_,_,rfl,rfl,TB (cf:=F8) (l:=o2) (ns:=([a7]:F6)) dz6.u xP (by decide) (by decide) (λ_=>rfl) h1,rfl,?_⟩;refine l9 ?_;refine Z9 (p:=λr=>DW [2] 0 l R 3 (.c (.v (.bool true))) [(0,.lp l R .on),(0,.varx [.rs 2 1]),(1,.arr 3 1 (r.map F8) none)] .on true _) hF ?_;exact⟨rfl,rfl,[(4294967296,0),(4295032832,0),(2147614720,1)],[0,0,1],rfl,rfl⟩
def dp5{s:F6}:gI prog Gw 116 [.c (.sl 1 (s.map F8))] [] (.V4 202 [.pm 0 1 0]) [(1,.var [.sl 1 (s.map F8)])]:=by
 refine vF O9 mixed func116 (by decide) rfl (I8 rfl) rfl ?_;refine l9 ?_;exact⟨[(1,1)],[1],rfl,rfl,rfl⟩
def WQ(u3:List Int):Nat->Int->List Int->Option (List Int)
 |0,_,_=>none
 |fu1+1,v1,v2=>bif decide (v1<((u3.map F8).length:Int))then(Option.bind (ix u3 v1) λx4=>Option.bind (a90 v2 x4) λy6=>WQ u3 fu1 (IntKind.i64.wrap (v1+1)) y6)else some (v2)
def bY9(N:Nat)(o2:F6)(u3:F6):qQ:=WQ u3 N 0 o2
def dp3{N:Nat}{o2:F6}{u3:F6}{r:F6}{l:Nat}{R:Loop}(hR:a81 R)(hF:bY9 N o2 u3=some r):gI prog Gw 202 [.V4 (.yl l R.tmps.toList) (oI [(2,.pm 1 0 0)] 13 0),.pm 3 0 0] [(0,.lp l R .on),(0,.varx [.rs 2 0]),(0,.arr 3 1 (o2.map F8) none),(0,.var [.sl 1 (u3.map F8)])] (.c (.U6 [])) [(0,.lp l R .on),(0,.varx [.rs 2 1]),(1,.arr 3 1 (r.map F8) none),(0,.var [.sl 1 (u3.map F8)])]:=by
 refine bs1 [2] O9 mixed func202 (by decide) rfl (I8 rfl) rfl ?_;refine iE (λp:Nat×Int×F6=>[(0,.V4 (.yl l R.tmps.toList) (oI [(2,.pm 4295032832 0 0)] 13 0)),(5,.c (.sl 1 (u3.map F8))),(6,.c (I ((u3.map F8).length:Int))),(7,.c (I p.2.1))]) (λp:Nat×Int×F6=>[(4294967296,.lp l R .on),(4295032832,.varx [.rs 2147614720 0]),(2147614720,.arr 3 1 (p.2.2.map F8) none),(4295163904,.var [.sl 1 (u3.map F8)])]) (λp=>WQ u3 p.1 p.2.1 p.2.2=some r) (λp=>p.1) (N,0,o2) hF ⟨rfl,rfl,rfl,rfl,trivial⟩ ⟨rfl,rfl,rfl,rfl,trivial⟩ ?_;rintro⟨fu1,v1,v2⟩ hF;cases fu1 with
 |zero=>exact nomatch hF
 |succ fu1=>
  refine P6 ?_;refine C9 (λh3=>?_) (λh3=>?_)
  .have hF:=D6 h3 hF;refine P6 ?_;refine E5 hF λx4 h5 hF=>?_;refine⟨aT h5,.inl rfl,_,bK F8 h5,?_⟩;refine E5 hF λy6 h7 hF=>?_;refine J5 ⟨[(4294967296,0),(4295032832,0),(2147614720,0)],0,_,_,_,_,rfl,rfl,ZE rfl 0 rfl (dm8 hR) (dm7 hR h7),rfl,?_⟩;refine C9 (λh8=>?_) (λh8=>?_)
   .exact absurd h8 (by simp)
   .skip
    exact⟨(fu1,(IntKind.i64.wrap (v1+1)),y6),aP _,hF,⟨rfl,rfl,rfl,rfl,trivial⟩,⟨rfl,rfl,rfl,rfl,trivial⟩⟩
  .have hF:=D5 h3 hF;refine Z9 (p:=λr=>ZA tab _ 4 [2] (.c (.U6 [])) [(0,.lp l R .on),(0,.varx [.rs 2 1]),(1,.arr 3 1 (r.map F8) none),(0,.var [.sl 1 (u3.map F8)])] _) hF ?_;exact⟨[(4294967296,0),(4295032832,0),(2147614720,0),(4295163904,0)],[0,0,1,0],rfl,rfl,rfl⟩
abbrev bZ0:=bY9 1000
abbrev dp4:=@dp3 1000
def a94(u0:F6):qQ:=Option.bind (bZ0 ([]:F6) u0) λy1=>some (y1)
def dm9{u0:F6}{r:F6}(hF:a94 u0=some r):gI prog Gw 282 [.c (.v (.slice none 0 0)),.V4 202 [.pm 0 0 0]] [(0,.var [.sl 1 (u0.map F8)])] (.rs 1 1) [(0,.var [.sl 1 (u0.map F8)]),(1,.arr 3 1 (r.map F8) none)]:=by
 refine vF O9 mixed func282 (by decide) rfl (I8 rfl) rfl ?_;refine J5 ⟨[],0,_,_,_,_,rfl,rfl,cC7 (e:=3) (ie:=rW) (by decide),rfl,?_⟩;refine l9 ?_;refine E5 hF λy1 h2 hF=>?_;refine aw0.mk ?_;refine⟨60000,oI [(2,.pm 2 1 0)] 13 0,_,_,l9 rfl,rfl,(by refine ap2 ?_ 13 0;exact⟨rfl,trivial⟩),λl R hp ha hb hn=>⟨[(60000,1),(2,1),(65538,1),(4294967296,0)],0,_,_,_,_,rfl,rfl,dp4 ⟨hp,ha,hb,hn⟩ h2,rfl,_,true,.skip,rfl,λ_=>?_,λhb=>nomatch hb⟩⟩;refine l9 ?_;refine Z9 (p:=λr=>bF tab _ 1 (.rs 1 1) [(0,.var [.sl 1 (u0.map F8)]),(1,.arr 3 1 (r.map F8) none)] _) hF ?_;exact⟨[(4294967296,0),(65538,2)],[0,1],rfl,rfl,rfl⟩
def a99(u0:F6):qQ:=Option.bind (a94 u0) λy1=>some (y1)
def dn4{u0:F6}{r:F6}(hF:a99 u0=some r):gI prog Gw 201 [.V4 202 [.pm 0 0 0]] [(0,.var [.sl 1 (u0.map F8)])] (.rs 1 1) [(0,.var [.sl 1 (u0.map F8)]),(1,.arr 3 1 (r.map F8) none)]:=by
 refine vF O9 mixed func201 (by decide) rfl (I8 rfl) rfl ?_;refine l9 ?_;refine E5 hF λy1 h2 hF=>?_;refine J5 (J5 ⟨[(4294967296,0)],0,_,_,_,_,rfl,rfl,cD0 (as':=[.c (.v (.slice none 0 0)),.V4 202 [.pm 0 0 0]]) rfl (J5 ⟨_,rfl,rfl⟩) ⟨.inr ⟨rfl,rfl⟩,.inl rfl,trivial⟩ (dm9 h2),rfl,?_⟩);refine Z9 (p:=λr=>bF tab _ 1 (.rs 1 1) [(0,.var [.sl 1 (u0.map F8)]),(1,.arr 3 1 (r.map F8) none)] _) hF ?_;exact⟨[(4294967296,0),(65540,1)],[0,1],rfl,rfl,rfl⟩
def ay5(u0:F6):qQ:=Option.bind (a99 u0) λy1=>Option.bind (ba9 y1) λy3=>some (y3)
def dp1{u0:F6}{r:F6}(hF:ay5 u0=some r):gI prog Gw 115 [.V4 202 [.pm 0 0 0]] [(0,.var [.sl 1 (u0.map F8)])] (.rs 1 1) [(0,.var [.sl 1 (u0.map F8)]),(1,.arr 3 1 (r.map F8) none)]:=by
 refine vF O9 mixed func115 (by decide) rfl (I8 rfl) rfl ?_;refine l9 ?_;refine E5 hF λy1 h2 hF=>?_;refine J5 (J5 ⟨[(4294967296,0)],0,_,_,_,_,rfl,rfl,pW rfl (J5 ⟨_,rfl,rfl⟩) (dn4 h2),rfl,?_⟩);refine E5 hF λy3 h4 hF=>?_;refine J5 (J5 ⟨[(65541,1)],0,_,_,_,_,rfl,rfl,pW rfl (J5 ⟨_,rfl,rfl⟩) (dp0 h4),rfl,?_⟩);refine Z9 (p:=λr=>bF tab _ 1 (.rs 1 1) [(0,.var [.sl 1 (u0.map F8)]),(1,.arr 3 1 (r.map F8) none)] _) hF ?_;exact⟨[(4294967296,0),(65541,1)],[0,1],rfl,rfl,rfl⟩
abbrev ah6(y:Bool):CV:=B y
def WM(s1:List Int)(s2:List Int):Nat->Int->Option (Bool)
 |0,_=>none
 |fu1+1,v2=>bif decide (v2<((s1.map F8).length:Int))then(Option.bind (ix s1 v2) λx4=>Option.bind (ix s2 v2) λx6=>bif (x4 !=x6)then some (false)else WM s1 s2 fu1 (IntKind.i64.wrap (v2+1)))else some (true)
def ba2(N:Nat)(s1:F6)(s2:F6):U7:=bif (((s1.map F8).length:Int) !=((s2.map F8).length:Int))then some (false)else WM s1 s2 N 0
def dn6{N:Nat}{s1:F6}{s2:F6}{r:Bool}(hF:ba2 N s1 s2=some r):Holds prog Gw 27 [.sl 1 (s1.map F8),.sl 1 (s2.map F8)] (ah6 r):=by
 refine V9 O9 mixed func27 (by decide) rfl (I8 rfl) ?_;refine C9 (λh1=>?_) (λh1=>?_)
 .have hF:=D6 h1 hF;exact l9 ⟨rfl,congrArg (Option.map ah6) hF⟩
 .have hF:=D5 h1 hF;refine iE (λp:Nat×Int=>[(0,.c (.sl 1 (s1.map F8))),(1,.c (.sl 1 (s2.map F8))),(12,.c (I ((s1.map F8).length:Int))),(13,.c (I p.2))]) (λ_=>[]) (λp=>WM s1 s2 p.1 p.2=some r) (λp=>p.1) (N,0) hF ⟨rfl,rfl,rfl,rfl,trivial⟩ trivial ?_;rintro⟨fu1,v2⟩ hF;cases fu1 with
  |zero=>exact nomatch hF
  |succ fu1=>
   refine P6 ?_;refine C9 (λh3=>?_) (λh3=>?_)
   .have hF:=D6 h3 hF;refine P6 ?_;refine E5 hF λx4 h5 hF=>?_;refine⟨aT h5,.inl rfl,_,bK F8 h5,?_⟩;refine E5 hF λx6 h7 hF=>?_;refine⟨aT h7,.inl rfl,_,bK F8 h7,?_⟩;refine C9 (by kernel_rfl) ?_;refine C9 (λh8=>?_) (λh8=>?_)
    .have hF:=D6 h8 hF;exact l9 ⟨rfl,congrArg (Option.map ah6) hF⟩
    .have hF:=D5 h8 hF;exact⟨(fu1,(IntKind.i64.wrap (v2+1))),aP _,hF,⟨rfl,rfl,rfl,rfl,trivial⟩,trivial⟩
   .have hF:=D5 h3 hF;exact l9 ⟨rfl,congrArg (Option.map ah6) hF⟩
abbrev ax9(s1:F6)(s2:F6):U7:=ba2 (s1.length+1) s1 s2
def dn7{s1:F6}{s2:F6}{r:Bool}(h:ax9 s1 s2=some r):Holds prog Gw 27 [.sl 1 (s1.map F8),.sl 1 (s2.map F8)] (ah6 r):=dn6 h
abbrev cb5(y:Bool):CV:=B y
def PY(t:Tree)(parent:Int)(l:List Int):Nat->List Int->Int->Option (Bool)
 |0,_,_=>none
 |fu1+1,KA,v2=>bif decide (v2<((t.Branches.map I4).length:Int))then(Option.bind (ix t.Branches v2) λx4=>bif (x4.Unit.Parent==parent)then(bif decide (KA.length+([x4.Unit.ID]:List Int).length<=4294967296)then PY t parent l fu1 (KA++([x4.Unit.ID]:List Int)) (IntKind.i64.wrap (v2+1))else none)else PY t parent l fu1 KA (IntKind.i64.wrap (v2+1)))else(Option.bind (ay5 l) λy8=>Option.bind (ax9 y8 KA) λkL=>some (kL))
def cb6(N:Nat)(t:Tree)(parent:Int)(l:F6):U7:=PY t parent l N ([]:F6) 0
def dz1{N:Nat}{t:Tree}{parent:Int}{l:F6}{r:Bool}(hF:cb6 N t parent l=some r):Holds prog Gw 143 [.agg (gW t),I parent,.sl 1 (l.map F8)] (cb5 r):=by
 refine V9 O9 mixed func143 (by decide) rfl (I8 rfl) ?_;refine l9 ?_;refine l9 ?_;refine iE (λp:Nat×F6×Int=>[(1,.c (I parent)),(2,.c (.sl 1 (l.map F8))),(7,.ap 7 0 1 (p.2.1.map F8)),(11,.c (.sl 6 (t.Branches.map I4))),(12,.c (I ((t.Branches.map I4).length:Int))),(13,.c (I p.2.2))]) (λp:Nat×F6×Int=>[(7,.tok 3 1)]) (λp=>PY t parent l p.1 p.2.1 p.2.2=some r) (λp=>p.1) (N,([]:F6),0) hF ⟨rfl,rfl,rfl,rfl,rfl,rfl,trivial⟩ ⟨rfl,trivial⟩ ?_;rintro⟨fu1,KA,v2⟩ hF;cases fu1 with
 |zero=>exact nomatch hF
 |succ fu1=>
  refine P6 ?_;refine C9 (λh3=>?_) (λh3=>?_)
  .have hF:=D6 h3 hF;refine P6 ?_;refine E5 hF λx4 h5 hF=>?_;refine⟨aT h5,.inl rfl,_,bK I4 h5,?_⟩;refine l9 ?_;refine C9 (λh6=>?_) (λh6=>?_)
   .have hF:=D6 h6 hF;refine l9 ?_;refine mV hF λh7 hF=>?_;refine l9 ⟨cW5 rfl,cq3 (f:=F8) h7,(KA++([x4.Unit.ID]:F6)).map F8,cY2 _ _ _,?_⟩;exact⟨(fu1,(KA++([x4.Unit.ID]:F6)),(IntKind.i64.wrap (v2+1))),aP _,hF,⟨rfl,rfl,rfl,rfl,rfl,rfl,trivial⟩,⟨rfl,trivial⟩⟩
   .have hF:=D5 h6 hF;exact⟨(fu1,KA,(IntKind.i64.wrap (v2+1))),aP _,hF,⟨rfl,rfl,rfl,rfl,rfl,rfl,trivial⟩,⟨rfl,trivial⟩⟩
  .have hF:=D5 h3 hF;refine J5 (J5 ⟨[],0,_,_,_,_,rfl,rfl,pW rfl (J5 ⟨_,rfl,rfl⟩) dp5,rfl,?_⟩);refine E5 hF λy8 h9 hF=>?_;refine J5 (J5 ⟨[(30,1)],0,_,_,_,_,rfl,rfl,pW rfl (J5 ⟨_,rfl,rfl⟩) (dp1 h9),rfl,?_⟩);refine E5 hF λkL h11 hF=>?_;refine l9 ⟨_,dn7 h11,rfl,?_⟩;exact l9 ⟨rfl,congrArg (Option.map cb5) hF⟩
abbrev aA8:=cb6 1000
abbrev cb7:=@dz1 1000
abbrev bc5(y:Int):CV:=I y
def ai2(t:Tree)(i:Int):gQ:=Option.bind (ix t.Branches i) λx1=>Option.bind (aA8 t x1.Unit.ID x1.Kids) λy3=>bif (!y3)then some (10)else some (0)
def du4{t:Tree}{i:Int}{r:Int}(hF:ai2 t i=some r):Holds prog Gw 142 [.agg (gW t),I i] (bc5 r):=by
 refine V9 O9 mixed func142 (by decide) rfl (I8 rfl) ?_;refine l9 ?_;refine E5 hF λx1 h2 hF=>?_;refine⟨aT h2,.inl rfl,_,bK I4 h2,?_⟩;refine l9 ?_;refine E5 hF λy3 h4 hF=>?_;refine l9 ⟨_,cb7 h4,rfl,?_⟩;refine C9 (λh5=>?_) (λh5=>?_)
 .have hF:=D6 h5 hF;exact l9 ⟨rfl,congrArg (Option.map bc5) hF⟩
 .have hF:=D5 h5 hF;exact l9 ⟨rfl,congrArg (Option.map bc5) hF⟩
abbrev az7(y:Int):CV:=I y
def ai6(t:Tree):Nat->Int->Int->Int->Int->Str->Str->Option (Int)
 |0,_,_,_,_,_,_=>none
 |fu1+1,ac2,u_4,u_5,u_6,u_7,u_8=>bif (u_5 !=0)then(bif decide (ac2>((t.Branches.map I4).length:Int))then some (17)else(Option.bind (ai7 t u_5) λbD=>Option.bind (ix t.Branches bD) λxW=>ai6 t fu1 (IntKind.i64.wrap (ac2+1)) xW.Unit.ID xW.Unit.Parent xW.Unit.Level xW.Unit.Title xW.Unit.Mark))else(bif decide (ac2>12)then some (15)else some (0))
def bd1(N:Nat)(t:Tree)(i:Int):gQ:=Option.bind (ix t.Branches i) λx1=>ai6 t N 1 x1.Unit.ID x1.Unit.Parent x1.Unit.Level x1.Unit.Title x1.Unit.Mark
def dv1{N:Nat}{t:Tree}{i:Int}{r:Int}(hF:bd1 N t i=some r):Holds prog Gw 146 [.agg (gW t),I i] (az7 r):=by
 refine V9 O9 mixed func146 (by decide) rfl (I8 rfl) ?_;refine l9 ?_;refine E5 hF λx1 h2 hF=>?_;refine⟨aT h2,.inl rfl,_,bK I4 h2,?_⟩;refine l9 ?_;refine iE (λp:Nat×Int×Int×Int×Int×Str×Str=>[(2,.pm 2 0 0),(5,.c (I p.2.1)),(6,.pm 6 0 0)]) (λp:Nat×Int×Int×Int×Int×Str×Str=>[(2,.var [.sl 1 (t.Q7.map F8),.sl 6 (t.Branches.map I4)]),(6,.var [I p.2.2.1,I p.2.2.2.1,I p.2.2.2.2.1,S p.2.2.2.2.2.1,S p.2.2.2.2.2.2])]) (λp=>ai6 t p.1 p.2.1 p.2.2.1 p.2.2.2.1 p.2.2.2.2.1 p.2.2.2.2.2.1 p.2.2.2.2.2.2=some r) (λp=>p.1) (N,1,x1.Unit.ID,x1.Unit.Parent,x1.Unit.Level,x1.Unit.Title,x1.Unit.Mark) hF ⟨rfl,rfl,rfl,trivial⟩ ⟨rfl,rfl,trivial⟩ ?_;rintro⟨fu1,ac2,u_4,u_5,u_6,u_7,u_8⟩ hF;cases fu1 with
 |zero=>exact nomatch hF
 |succ fu1=>
  refine C9 (λh9=>?_) (λh9=>?_)
  .have hF:=D6 h9 hF;refine P6 ?_;refine C9 (λh10=>?_) (λh10=>?_)
   .have hF:=D6 h10 hF;exact l9 ⟨rfl,congrArg (Option.map az7) hF⟩
   .have hF:=D5 h10 hF;refine E5 hF λbD h12 hF=>?_;refine l9 ⟨_,cb4 h12,rfl,?_⟩;refine E5 hF λxW dL hF=>?_;refine⟨aT dL,.inl rfl,_,bK I4 dL,?_⟩;refine C9 (by kernel_rfl) ?_;refine l9 ?_;exact⟨(fu1,(IntKind.i64.wrap (ac2+1)),xW.Unit.ID,xW.Unit.Parent,xW.Unit.Level,xW.Unit.Title,xW.Unit.Mark),aP _,hF,⟨rfl,rfl,rfl,trivial⟩,⟨rfl,rfl,trivial⟩⟩
  .have hF:=D5 h9 hF;refine C9 (λh15=>?_) (λh15=>?_)
   .have hF:=D6 h15 hF;exact l9 ⟨rfl,congrArg (Option.map az7) hF⟩
   .have hF:=D5 h15 hF;exact l9 ⟨rfl,congrArg (Option.map az7) hF⟩
abbrev az8:=bd1 1000
abbrev dv2:=@dv1 1000
end
section
open Go Go.F7 Proofs.Tryz
def vY(f:FuncId)(t:Tree)(i:Int):Option Int:=bif Nat.beq f 144 then ai5 t i else bif Nat.beq f 145 then ai9 t i else bif Nat.beq f 142 then ai2 t i else bif Nat.beq f 146 then az8 t i else none
def b36{f:FuncId}{t:Tree}{i:Int}{r:Int}(h:vY f t i=some r):Holds prog Gw f [.agg (gW t),I i] (I r):=by
 unfold vY at h;cases h1:Nat.beq f 144 with
 |true=>rw[h1]at h;rw[G5 h1];exact du9 h
 |false=>
  rw[h1]at h;cases h2:Nat.beq f 145 with
  |true=>rw[h2]at h;rw[G5 h2];exact dA1 h
  |false=>
   rw[h2]at h;cases h3:Nat.beq f 142 with
   |true=>rw[h3]at h;rw[G5 h3];exact du4 h
   |false=>
    rw[h3]at h;cases h4:Nat.beq f 146 with
    |true=>rw[h4]at h;rw[G5 h4];exact dv2 h
    |false=>rw[h4]at h;exact nomatch h
end
section
open Go Go.F7 Proofs.Tryz
set_option maxRecDepth 10000
set_option maxHeartbeats 400000
abbrev WV(y:Int×Int):CV:=.U6 [I y.1,I y.2]
def JK(t:Tree)(v2:Int)(x4:FuncId)(yV:Int->Option (Int×Int)):Nat->Int->Option (Int×Int)
 |0,_=>none
 |bI+1,v10=>bif decide (v10<((t.Branches.map I4).length:Int))then(Option.bind (vY x4 t v10) λnY=>bif (nY !=0)then some (v10,nY)else JK t v2 x4 yV bI (IntKind.i64.wrap (v10+1)))else yV (IntKind.i64.wrap (v2+1))
def JL(t:Tree)(v2:Int)(x4:FuncId)(yV:Int->Option (Int×Int)):Nat->Int->Option (Int×Int)
 |0,_=>none
 |fu3+1,v15=>bif decide (v15<((t.Branches.map I4).length:Int))then(Option.bind (vY x4 t v15) λKE=>bif (KE !=0)then some (v15,KE)else JL t v2 x4 yV fu3 (IntKind.i64.wrap (v15+1)))else yV (IntKind.i64.wrap (v2+1))
def qH(t:Tree)(N:Nat):Nat->Int->Option (Int×Int)
 |0,_=>none
 |fu1+1,v2=>bif decide (v2<((([(144:FuncId),(145:FuncId),(142:FuncId),(146:FuncId)]:List FuncId).map AY).length:Int))then(Option.bind (ix ([(144:FuncId),(145:FuncId),(142:FuncId),(146:FuncId)]:List FuncId) v2) λx4=>bif (v2==3)then(Option.bind (aA8 t 0 t.Q7) λy7=>bif (!y7)then some ((-1),10)else JK t v2 x4 (λOZ=>qH t N fu1 OZ) N 0)else JL t v2 x4 (λOZ=>qH t N fu1 OZ) N 0)else some ((-1),0)
def bc6(N:Nat)(t:Tree):Option (Int×Int):=bif decide (((t.Branches.map I4).length:Int)>256)then some ((-1),8)else qH t N N 0
def du5{N:Nat}{t:Tree}{r:Int×Int}(hF:bc6 N t=some r):Holds prog Gw 86 [.agg (gW t)] (WV r):=by
 refine V9 O9 mixed func86 (by decide) rfl (I8 rfl) ?_;refine l9 ?_;refine C9 (λh1=>?_) (λh1=>?_)
 .have hF:=D6 h1 hF;exact l9 ⟨rfl,congrArg (Option.map WV) hF⟩
 .have hF:=D5 h1 hF;refine l9 ?_;refine iE (λp:Nat×Int=>[(1,.pm 1 0 0),(14,.ap 14 0 1 (([(144:FuncId),(145:FuncId),(142:FuncId),(146:FuncId)]:List FuncId).map AY)),(15,.c (I ((([(144:FuncId),(145:FuncId),(142:FuncId),(146:FuncId)]:List FuncId).map AY).length:Int))),(16,.c (I p.2))]) (λp:Nat×Int=>[(1,.var [.sl 1 (t.Q7.map F8),.sl 6 (t.Branches.map I4)]),(14,.tok 125 1)]) (λp=>qH t N p.1 p.2=some r) (λp=>p.1) (N,0) hF ⟨rfl,rfl,rfl,rfl,trivial⟩ ⟨rfl,rfl,trivial⟩ ?_;rintro⟨fu1,v2⟩ hF;cases fu1 with
  |zero=>exact nomatch hF
  |succ fu1=>
   refine P6 ?_;refine C9 (λh3=>?_) (λh3=>?_)
   .have hF:=D6 h3 hF;refine P6 ?_;refine E5 hF λx4 h5 hF=>?_;refine⟨aT h5,.inl rfl,_,bK AY h5,?_⟩;refine P6 ?_;refine C9 (λh6=>?_) (λh6=>?_)
    .have hF:=D6 h6 hF;refine E5 hF λy7 h8 hF=>?_;refine l9 ⟨_,cb7 h8,rfl,?_⟩;refine C9 (λh9=>?_) (λh9=>?_)
     .have hF:=D6 h9 hF;exact l9 ⟨rfl,congrArg (Option.map WV) hF⟩
     .have hF:=D5 h9 hF;refine iE (λp:Nat×Int=>[(1,.pm 1 0 0),(6,.c (.fn x4 [])),(14,.ap 14 0 1 (([(144:FuncId),(145:FuncId),(142:FuncId),(146:FuncId)]:List FuncId).map AY)),(15,.c (I ((([(144:FuncId),(145:FuncId),(142:FuncId),(146:FuncId)]:List FuncId).map AY).length:Int))),(16,.c (I v2)),(24,.c (.agg [.sl 1 (t.Q7.map F8),.sl 6 (t.Branches.map I4)])),(25,.pm 1 0 0),(26,.c (.sl 1 (t.Q7.map F8))),(27,.c (B y7)),(28,.c (B (!y7))),(32,.c (I ((t.Branches.map I4).length:Int))),(33,.c (I p.2))]) (λp:Nat×Int=>[(1,.var [.sl 1 (t.Q7.map F8),.sl 6 (t.Branches.map I4)]),(14,.tok 125 1)]) (λp=>JK t v2 x4 (λOZ=>qH t N fu1 OZ) p.1 p.2=some r) (λp=>p.1) (N,0) hF ⟨rfl,rfl,rfl,rfl,rfl,rfl,rfl,rfl,rfl,rfl,rfl,rfl,trivial⟩ ⟨rfl,rfl,trivial⟩ ?_;rintro⟨bI,v10⟩ hF;cases bI with
      |zero=>exact nomatch hF
      |succ bI=>
       refine P6 ?_;refine C9 (λh11=>?_) (λh11=>?_)
       .have hF:=D6 h11 hF;refine P6 ?_;refine E5 hF λnY h13 hF=>?_;refine l9 ⟨_,b36 h13,rfl,?_⟩;refine C9 (λdL=>?_) (λdL=>?_)
        .have hF:=D6 dL hF;exact l9 ⟨rfl,congrArg (Option.map WV) hF⟩
        .have hF:=D5 dL hF;exact⟨(bI,(IntKind.i64.wrap (v10+1))),aP _,hF,⟨rfl,rfl,rfl,rfl,rfl,rfl,rfl,rfl,rfl,rfl,rfl,rfl,trivial⟩,⟨rfl,rfl,trivial⟩⟩
       .have hF:=D5 h11 hF;exact⟨(fu1,(IntKind.i64.wrap (v2+1))),aP _,hF,⟨rfl,rfl,rfl,rfl,trivial⟩,⟨rfl,rfl,trivial⟩⟩
    .have hF:=D5 h6 hF;refine iE (λp:Nat×Int=>[(1,.pm 1 0 0),(6,.c (.fn x4 [])),(14,.ap 14 0 1 (([(144:FuncId),(145:FuncId),(142:FuncId),(146:FuncId)]:List FuncId).map AY)),(15,.c (I ((([(144:FuncId),(145:FuncId),(142:FuncId),(146:FuncId)]:List FuncId).map AY).length:Int))),(16,.c (I v2)),(32,.c (I ((t.Branches.map I4).length:Int))),(33,.c (I p.2))]) (λp:Nat×Int=>[(1,.var [.sl 1 (t.Q7.map F8),.sl 6 (t.Branches.map I4)]),(14,.tok 125 1)]) (λp=>JL t v2 x4 (λOZ=>qH t N fu1 OZ) p.1 p.2=some r) (λp=>p.1) (N,0) hF ⟨rfl,rfl,rfl,rfl,rfl,rfl,rfl,trivial⟩ ⟨rfl,rfl,trivial⟩ ?_;rintro⟨fu3,v15⟩ hF;cases fu3 with
     |zero=>exact nomatch hF
     |succ fu3=>
      refine P6 ?_;refine C9 (λh16=>?_) (λh16=>?_)
      .have hF:=D6 h16 hF;refine P6 ?_;refine E5 hF λKE h18 hF=>?_;refine l9 ⟨_,b36 h18,rfl,?_⟩;refine C9 (λh19=>?_) (λh19=>?_)
       .have hF:=D6 h19 hF;exact l9 ⟨rfl,congrArg (Option.map WV) hF⟩
       .have hF:=D5 h19 hF;exact⟨(fu3,(IntKind.i64.wrap (v15+1))),aP _,hF,⟨rfl,rfl,rfl,rfl,rfl,rfl,rfl,trivial⟩,⟨rfl,rfl,trivial⟩⟩
      .have hF:=D5 h16 hF;exact⟨(fu1,(IntKind.i64.wrap (v2+1))),aP _,hF,⟨rfl,rfl,rfl,rfl,trivial⟩,⟨rfl,rfl,trivial⟩⟩
   .have hF:=D5 h3 hF;exact l9 ⟨rfl,congrArg (Option.map WV) hF⟩
abbrev JM:=bc6 1000
abbrev bc7:=@du5 1000
abbrev cd0(y:Bool):CV:=B y
def QC(t:Tree):U7:=Option.bind (JM t) λy1=>some ((y1.2==0))
def dA3{t:Tree}{r:Bool}(hF:QC t=some r):Holds prog Gw 188 [.agg (gW t)] (cd0 r):=by
 refine V9 O9 mixed func188 (by decide) rfl (I8 rfl) ?_;refine l9 ?_;refine E5 hF λy1 h2 hF=>?_;refine l9 ⟨_,bc7 h2,rfl,?_⟩;exact l9 ⟨rfl,congrArg (Option.map cd0) hF⟩
abbrev bc8(y:Bool):CV:=B y
def ai3(b:Branch)(c0:Str):U7:=bif (!(c0==([]:Str)))then some ((b.Unit.Mark==c0))else some (false)
def du6{b:Branch}{c0:Str}{r:Bool}(hF:ai3 b c0=some r):Holds prog Gw 225 [.agg (I4 b),.pi [S c0] 0] (bc8 r):=by
 refine V9 O9 mixed func225 (by decide) rfl (I8 rfl) ?_;refine l9 ?_;refine P6 ?_;refine C9 (λh1=>?_) (λh1=>?_)
 .have hF:=D6 h1 hF;exact l9 ⟨rfl,congrArg (Option.map bc8) hF⟩
 .have hF:=D5 h1 hF;exact l9 ⟨rfl,congrArg (Option.map bc8) hF⟩
abbrev bc9(y:Int×Bool):CV:=.U6 [I y.1,B y.2]
def ai4(t:Tree)(mark:Str):Option (Int×Bool):=Option.bind (ah7 t.Branches (λz0=>ai3 z0 mark)) λy1=>bif decide (y1<0)then some (0,false)else(Option.bind (ix t.Branches y1) λx4=>some (x4.Unit.ID,true))
def du7{t:Tree}{mark:Str}{r:Int×Bool}(hF:ai4 t mark=some r):Holds prog Gw 132 [.agg (gW t),S mark] (bc9 r):=by
 refine V9 O9 mixed func132 (by decide) rfl (I8 rfl) ?_;refine l9 ?_;refine l9 ?_;refine E5 hF λy1 h2 hF=>?_;refine l9 ⟨_,ba4 (λ_ _ h=>du6 h) h2,rfl,?_⟩;refine C9 (λh3=>?_) (λh3=>?_)
 .have hF:=D6 h3 hF;exact l9 ⟨rfl,congrArg (Option.map bc9) hF⟩
 .have hF:=D5 h3 hF;refine E5 hF λx4 h5 hF=>?_;refine⟨aT h5,.inl rfl,_,bK I4 h5,?_⟩;exact l9 ⟨rfl,congrArg (Option.map bc9) hF⟩
abbrev bp6(y:Bool):CV:=B y
def ao2(x:Int):U7:=some ((x !=x))
def bp7{x:Int}{r:Bool}(hF:ao2 x=some r):Holds prog Gw 113 [I x] (bp6 r):=by
 refine V9 O9 mixed func113 (by decide) rfl (I8 rfl) ?_;exact l9 ⟨rfl,congrArg (Option.map bp6) hF⟩
abbrev LP(y:Int):CV:=I y
def yK(x:Int)(y:Int):gQ:=Option.bind (ao2 x) λy1=>Option.bind (ao2 y) λy3=>bif y1 then(bif y3 then some (0)else some ((-1)))else(bif y3 then some (1)else(bif decide (x<y)then some ((-1))else(bif decide (x>y)then some (1)else some (0))))
def aH0{x:Int}{y:Int}{r:Int}(hF:yK x y=some r):Holds prog Gw 63 [I x,I y] (LP r):=by
 refine V9 O9 mixed func63 (by decide) rfl (I8 rfl) ?_;refine E5 hF λy1 h2 hF=>?_;refine l9 ⟨_,bp7 h2,rfl,?_⟩;refine E5 hF λy3 h4 hF=>?_;refine l9 ⟨_,bp7 h4,rfl,?_⟩;refine C9 (λh5=>?_) (λh5=>?_)
 .have hF:=D6 h5 hF;refine C9 (λh6=>?_) (λh6=>?_)
  .have hF:=D6 h6 hF;exact l9 ⟨rfl,congrArg (Option.map LP) hF⟩
  .have hF:=D5 h6 hF;exact l9 ⟨rfl,congrArg (Option.map LP) hF⟩
 .have hF:=D5 h5 hF;refine C9 (λh7=>?_) (λh7=>?_)
  .have hF:=D6 h7 hF;exact l9 ⟨rfl,congrArg (Option.map LP) hF⟩
  .have hF:=D5 h7 hF;refine C9 (λh8=>?_) (λh8=>?_)
   .have hF:=D6 h8 hF;exact l9 ⟨rfl,congrArg (Option.map LP) hF⟩
   .have hF:=D5 h8 hF;refine C9 (λh9=>?_) (λh9=>?_)
    .have hF:=D6 h9 hF;exact l9 ⟨rfl,congrArg (Option.map LP) hF⟩
    .have hF:=D5 h9 hF;exact l9 ⟨rfl,congrArg (Option.map LP) hF⟩
abbrev b29(y:Int):CV:=I y
def az5(b:Branch)(id:Int):gQ:=Option.bind (yK b.Unit.ID id) λy1=>some (y1)
def dv0{b:Branch}{id:Int}{r:Int}(hF:az5 b id=some r):Holds prog Gw 275 [.agg (I4 b),I id] (b29 r):=by
 refine V9 O9 mixed func275 (by decide) rfl (I8 rfl) ?_;refine l9 ?_;refine E5 hF λy1 h2 hF=>?_;refine l9 ⟨_,aH0 h2,rfl,?_⟩;exact l9 ⟨rfl,congrArg (Option.map b29) hF⟩
abbrev ba6(y:Int×Bool):CV:=.U6 [I y.1,B y.2]
def EC(x:List Branch)(target:Int)(cmp:Branch->Int->Option Int):Nat->Int->Int->Option (Int×Bool)
 |0,_,_=>none
 |fu1+1,i1,j2=>bif decide (i1<j2)then(Option.bind (ix x (IntKind.i64.wrap (Int.fdiv (IntKind.u64.wrap (IntKind.i64.wrap (i1+j2))) 2))) λx4=>Option.bind (cmp x4 target) λy6=>bif decide (y6<0)then EC x target cmp fu1 (IntKind.i64.wrap ((IntKind.i64.wrap (Int.fdiv (IntKind.u64.wrap (IntKind.i64.wrap (i1+j2))) 2))+1)) j2 else EC x target cmp fu1 i1 (IntKind.i64.wrap (Int.fdiv (IntKind.u64.wrap (IntKind.i64.wrap (i1+j2))) 2)))else(bif decide (i1<((x.map I4).length:Int))then(Option.bind (ix x i1) λx10=>Option.bind (cmp x10 target) λnY=>some (i1,(nY==0)))else some (i1,false))
def bY5(N:Nat)(x:X8)(target:Int)(cmp:Branch->Int->Option Int):Option (Int×Bool):=EC x target cmp N 0 ((x.map I4).length:Int)
def do6{N:Nat}{x:X8}{target:Int}{cmp:Branch->Int->Option Int}{r:Int×Bool}{LU:FuncId}{LQ:G9}(YL:∀z0 z1 y,cmp z0 z1=some y->Holds prog Gw LU (.agg (I4 z0)::I z1::LQ) (I y))(hF:bY5 N x target cmp=some r):Holds prog Gw 129 [.sl 6 (x.map I4),I target,.fn LU LQ] (ba6 r):=by
 refine V9 O9 mixed func129 (by decide) rfl (I8 rfl) ?_;refine P6 ?_;refine iE (λp:Nat×Int×Int=>[(0,.c (.sl 6 (x.map I4))),(1,.c (I target)),(2,.c (.fn LU LQ)),(8,.c (I ((x.map I4).length:Int))),(9,.c (I p.2.1)),(10,.c (I p.2.2))]) (λ_=>[]) (λp=>EC x target cmp p.1 p.2.1 p.2.2=some r) (λp=>p.1) (N,0,((x.map I4).length:Int)) hF ⟨rfl,rfl,rfl,rfl,rfl,rfl,trivial⟩ trivial ?_;rintro⟨fu1,i1,j2⟩ hF;cases fu1 with
 |zero=>exact nomatch hF
 |succ fu1=>
  refine C9 (λh3=>?_) (λh3=>?_)
  .have hF:=D6 h3 hF;refine⟨by decide,?_⟩;refine E5 hF λx4 h5 hF=>?_;refine⟨aT h5,.inl rfl,_,bK I4 h5,?_⟩;refine E5 hF λy6 h7 hF=>?_;refine l9 ⟨_,YL _ _ _ h7,rfl,?_⟩;refine C9 (λh8=>?_) (λh8=>?_)
   .have hF:=D6 h8 hF;exact⟨(fu1,(IntKind.i64.wrap ((IntKind.i64.wrap (Int.fdiv (IntKind.u64.wrap (IntKind.i64.wrap (i1+j2))) 2))+1)),j2),aP _,hF,⟨rfl,rfl,rfl,rfl,rfl,rfl,trivial⟩,trivial⟩
   .have hF:=D5 h8 hF;exact⟨(fu1,i1,(IntKind.i64.wrap (Int.fdiv (IntKind.u64.wrap (IntKind.i64.wrap (i1+j2))) 2))),aP _,hF,⟨rfl,rfl,rfl,rfl,rfl,rfl,trivial⟩,trivial⟩
  .have hF:=D5 h3 hF;refine P6 ?_;refine C9 (λh9=>?_) (λh9=>?_)
   .have hF:=D6 h9 hF;refine E5 hF λx10 h11 hF=>?_;refine⟨aT h11,.inl rfl,_,bK I4 h11,?_⟩;refine E5 hF λnY h13 hF=>?_;refine l9 ⟨_,YL _ _ _ h13,rfl,?_⟩;exact l9 ⟨rfl,congrArg (Option.map ba6) hF⟩
   .have hF:=D5 h9 hF;exact l9 ⟨rfl,congrArg (Option.map ba6) hF⟩
abbrev ai0:=bY5 1000
abbrev bY6:=@do6 1000
abbrev b30(y:Int×Bool):CV:=.U6 [I y.1,B y.2]
def XA(t:Tree)(id:Int):Option (Int×Bool):=Option.bind (ai0 t.Branches id (λz0 z1=>az5 z0 z1)) λy1=>some (y1.1,y1.2)
def b33{t:Tree}{id:Int}{r:Int×Bool}(hF:XA t id=some r):Holds prog Gw 189 [.agg (gW t),I id] (b30 r):=by
 refine V9 O9 mixed func189 (by decide) rfl (I8 rfl) ?_;refine l9 ?_;refine E5 hF λy1 h2 hF=>?_;refine l9 ⟨_,bY6 (λ_ _ _ h=>dv0 h) h2,rfl,?_⟩;exact l9 ⟨rfl,congrArg (Option.map b30) hF⟩
abbrev aA9(y:Int):CV:=I y
def PZ(t:Tree)(ids:List Int):Nat->Int->Option (Int)
 |0,_=>none
 |fu1+1,v4=>bif decide (v4<((ids.map F8).length:Int))then(Option.bind (ix ids v4) λx6=>Option.bind (XA t x6) λy8=>bif (!y8.2)then some (7)else PZ t ids fu1 (IntKind.i64.wrap (v4+1)))else some (0)
def cc0(N:Nat)(t:Tree)(ids:F6):gQ:=Option.bind (QC t) λy1=>bif (!y1)then some (1)else PZ t ids N 0
def dz3{N:Nat}{t:Tree}{ids:F6}{r:Int}(hF:cc0 N t ids=some r):Holds prog Gw 103 [.agg (gW t),.sl 1 (ids.map F8)] (aA9 r):=by
 refine V9 O9 mixed func103 (by decide) rfl (I8 rfl) ?_;refine l9 ?_;refine E5 hF λy1 h2 hF=>?_;refine l9 ⟨_,dA3 h2,rfl,?_⟩;refine C9 (λh3=>?_) (λh3=>?_)
 .have hF:=D6 h3 hF;exact l9 ⟨rfl,congrArg (Option.map aA9) hF⟩
 .have hF:=D5 h3 hF;refine iE (λp:Nat×Int=>[(2,.pm 2 0 0),(12,.c (.sl 1 (ids.map F8))),(13,.c (I ((ids.map F8).length:Int))),(14,.c (I p.2))]) (λp:Nat×Int=>[(2,.var [.sl 1 (t.Q7.map F8),.sl 6 (t.Branches.map I4)])]) (λp=>PZ t ids p.1 p.2=some r) (λp=>p.1) (N,0) hF ⟨rfl,rfl,rfl,rfl,trivial⟩ ⟨rfl,trivial⟩ ?_;rintro⟨fu1,v4⟩ hF;cases fu1 with
  |zero=>exact nomatch hF
  |succ fu1=>
   refine P6 ?_;refine C9 (λh5=>?_) (λh5=>?_)
   .have hF:=D6 h5 hF;refine P6 ?_;refine E5 hF λx6 h7 hF=>?_;refine⟨aT h7,.inl rfl,_,bK F8 h7,?_⟩;refine E5 hF λy8 h9 hF=>?_;refine l9 ⟨_,b33 h9,rfl,?_⟩;refine C9 (λh10=>?_) (λh10=>?_)
    .have hF:=D6 h10 hF;exact l9 ⟨rfl,congrArg (Option.map aA9) hF⟩
    .have hF:=D5 h10 hF;exact⟨(fu1,(IntKind.i64.wrap (v4+1))),aP _,hF,⟨rfl,rfl,rfl,rfl,trivial⟩,⟨rfl,trivial⟩⟩
   .have hF:=D5 h5 hF;exact l9 ⟨rfl,congrArg (Option.map aA9) hF⟩
abbrev bd8:=cc0 1000
abbrev cc1:=@dz3 1000
abbrev bd7(y:F6):CV:=.sl 1 (y.map F8)
def qI(t:Tree)(id:Int):qQ:=bif (id==0)then some (t.Q7)else(Option.bind (XA t id) λy2=>Option.bind (ix t.Branches y2.1) λx4=>some (x4.Kids))
def dz2{t:Tree}{id:Int}{r:F6}(hF:qI t id=some r):Holds prog Gw 107 [.agg (gW t),I id] (bd7 r):=by
 refine V9 O9 mixed func107 (by decide) rfl (I8 rfl) ?_;refine l9 ?_;refine l9 ?_;refine C9 (λh1=>?_) (λh1=>?_)
 .have hF:=D6 h1 hF;exact l9 ⟨rfl,congrArg (Option.map bd7) hF⟩
 .have hF:=D5 h1 hF;refine E5 hF λy2 h3 hF=>?_;refine l9 ⟨_,b33 h3,rfl,?_⟩;refine E5 hF λx4 h5 hF=>?_;refine⟨aT h5,.inl rfl,_,bK I4 h5,?_⟩;exact l9 ⟨rfl,congrArg (Option.map bd7) hF⟩
abbrev be3(y:Int):CV:=I y
def XI(t:Tree)(id:Int):gQ:=bif (id==0)then(Option.bind (bd8 t ([]:F6)) λy2=>some (y2))else(Option.bind (bd8 t ([id]:F6)) λy4=>some (y4))
def cc8{t:Tree}{id:Int}{r:Int}(hF:XI t id=some r):Holds prog Gw 53 [.agg (gW t),I id] (be3 r):=by
 refine V9 O9 mixed func53 (by decide) rfl (I8 rfl) ?_;refine l9 ?_;refine C9 (λh1=>?_) (λh1=>?_)
 .have hF:=D6 h1 hF;refine E5 hF λy2 h3 hF=>?_;refine l9 ⟨_,holds_nil (cc1 h3) ⟨.inl rfl,.inr ⟨_,rfl,rfl⟩,trivial⟩,rfl,?_⟩;exact l9 ⟨rfl,congrArg (Option.map be3) hF⟩
 .have hF:=D5 h1 hF;refine l9 ?_;refine E5 hF λy4 h5 hF=>?_;refine l9 ⟨_,cc1 h5,rfl,?_⟩;exact l9 ⟨rfl,congrArg (Option.map be3) hF⟩
abbrev ay4(y:Int):CV:=I y
def PV(s:List Int)(v:Int):Nat->Int->Option (Int)
 |0,_=>none
 |fu1+1,v1=>bif decide (v1<((s.map F8).length:Int))then(Option.bind (ix s v1) λx3=>bif (v==x3)then some (v1)else PV s v fu1 (IntKind.i64.wrap (v1+1)))else some ((-1))
def bY1(N:Nat)(s:F6)(v:Int):gQ:=PV s v N 0
def do3{N:Nat}{s:F6}{v:Int}{r:Int}(hF:bY1 N s v=some r):Holds prog Gw 31 [.sl 1 (s.map F8),I v] (ay4 r):=by
 refine V9 O9 mixed func31 (by decide) rfl (I8 rfl) ?_;refine iE (λp:Nat×Int=>[(0,.c (.sl 1 (s.map F8))),(1,.c (I v)),(7,.c (I ((s.map F8).length:Int))),(8,.c (I p.2))]) (λ_=>[]) (λp=>PV s v p.1 p.2=some r) (λp=>p.1) (N,0) hF ⟨rfl,rfl,rfl,rfl,trivial⟩ trivial ?_;rintro⟨fu1,v1⟩ hF;cases fu1 with
 |zero=>exact nomatch hF
 |succ fu1=>
  refine P6 ?_;refine C9 (λh2=>?_) (λh2=>?_)
  .have hF:=D6 h2 hF;refine P6 ?_;refine E5 hF λx3 h4 hF=>?_;refine⟨aT h4,.inl rfl,_,bK F8 h4,?_⟩;refine C9 (λh5=>?_) (λh5=>?_)
   .have hF:=D6 h5 hF;exact l9 ⟨rfl,congrArg (Option.map ay4) hF⟩
   .have hF:=D5 h5 hF;exact⟨(fu1,(IntKind.i64.wrap (v1+1))),aP _,hF,⟨rfl,rfl,rfl,rfl,trivial⟩,trivial⟩
  .have hF:=D5 h2 hF;exact l9 ⟨rfl,congrArg (Option.map ay4) hF⟩
abbrev ah9(s:F6)(v:Int):gQ:=bY1 (s.length+1) s v
def bY3{s:F6}{v:Int}{r:Int}(h:ah9 s v=some r):Holds prog Gw 31 [.sl 1 (s.map F8),I v] (ay4 r):=do3 h
abbrev bX3(y:Bool):CV:=B y
def vX(s:F6)(v:Int):U7:=Option.bind (ah9 s v) λy1=>some (decide (y1>=0))
def ba1{s:F6}{v:Int}{r:Bool}(hF:vX s v=some r):Holds prog Gw 10 [.sl 1 (s.map F8),I v] (bX3 r):=by
 refine V9 O9 mixed func10 (by decide) rfl (I8 rfl) ?_;refine E5 hF λy1 h2 hF=>?_;refine l9 ⟨_,bY3 h2,rfl,?_⟩;exact l9 ⟨rfl,congrArg (Option.map bX3) hF⟩
abbrev aY4(y:Bool):CV:=B y
def VX(n:Int)(low:Int)(high:Int):U7:=bif decide (low<=n)then some (decide (n<=high))else some (false)
def av6{n:Int}{low:Int}{high:Int}{r:Bool}(hF:VX n low high=some r):Holds prog Gw 57 [I n,I low,I high] (aY4 r):=by
 refine V9 O9 mixed func57 (by decide) rfl (I8 rfl) ?_;refine P6 ?_;refine C9 (λh1=>?_) (λh1=>?_)
 .have hF:=D6 h1 hF;exact l9 ⟨rfl,congrArg (Option.map aY4) hF⟩
 .have hF:=D5 h1 hF;exact l9 ⟨rfl,congrArg (Option.map aY4) hF⟩
abbrev au5(y:Bool):CV:=B y
def OU(c:Came)(bP0:Bool):U7:=Option.bind (VX c.Unit 1 1073741824) λkL=>bif kL then(Option.bind (VX c.Origin.bQ 0 1073741824) λy13=>bif y13 then some (bP0)else some (false))else some (false)
def ad6(c:Came):U7:=Option.bind (VX c.Origin.X3 1 1073741824) λy1=>bif y1 then(Option.bind (VX c.Origin.Number 1 9999) λy4=>bif y4 then OU c true else(bif (c.Origin.X3==0)then OU c (c.Origin.Number==0)else OU c false))else(bif (c.Origin.X3==0)then OU c (c.Origin.Number==0)else OU c false)
def bN9{c:Came}{r:Bool}(hF:ad6 c=some r):Holds prog Gw 191 [.agg (N9 c)] (au5 r):=by
 refine V9 O9 mixed func191 (by decide) rfl (I8 rfl) ?_;refine l9 ?_;refine l9 ?_;refine NS (λp:Bool=>[(1,.pm 1 0 0),(3,.pm 3 0 0),(4,.c (B p))]) (λp:Bool=>[(1,.var [I c.Unit,I c.Origin.bQ,I c.Origin.X3,I c.Origin.Number]),(3,.var [I c.Origin.bQ,I c.Origin.X3,I c.Origin.Number])]) (λp=>OU c p=some r) ?_ ?_
 .intro bP0 hF;refine P6 ?_;refine E5 hF λkL h11 hF=>?_;refine l9 ⟨_,av6 h11,rfl,?_⟩;refine C9 (λh12=>?_) (λh12=>?_)
  .have hF:=D6 h12 hF;refine E5 hF λy13 dL hF=>?_;refine l9 ⟨_,av6 dL,rfl,?_⟩;refine C9 (λh15=>?_) (λh15=>?_)
   .have hF:=D6 h15 hF;exact l9 ⟨rfl,congrArg (Option.map au5) hF⟩
   .have hF:=D5 h15 hF;exact l9 ⟨rfl,congrArg (Option.map au5) hF⟩
  .have hF:=D5 h12 hF;exact l9 ⟨rfl,congrArg (Option.map au5) hF⟩
 .show dW _ _ _ _ _ _;refine E5 hF λy1 h2 hF=>?_;refine l9 ⟨_,av6 h2,rfl,?_⟩;refine C9 (λh3=>?_) (λh3=>?_)
  .have hF:=D6 h3 hF;refine E5 hF λy4 h5 hF=>?_;refine l9 ⟨_,av6 h5,rfl,?_⟩;refine C9 (λh6=>?_) (λh6=>?_)
   .have hF:=D6 h6 hF;exact⟨true,hF,⟨rfl,rfl,rfl,trivial⟩,⟨rfl,rfl,trivial⟩⟩
   .have hF:=D5 h6 hF;refine C9 (λh7=>?_) (λh7=>?_)
    .have hF:=D6 h7 hF;exact⟨(c.Origin.Number==0),hF,⟨rfl,rfl,rfl,trivial⟩,⟨rfl,rfl,trivial⟩⟩
    .have hF:=D5 h7 hF;exact⟨false,hF,⟨rfl,rfl,rfl,trivial⟩,⟨rfl,rfl,trivial⟩⟩
  .have hF:=D5 h3 hF;refine C9 (λh8=>?_) (λh8=>?_)
   .have hF:=D6 h8 hF;exact⟨(c.Origin.Number==0),hF,⟨rfl,rfl,rfl,trivial⟩,⟨rfl,rfl,trivial⟩⟩
   .have hF:=D5 h8 hF;exact⟨false,hF,⟨rfl,rfl,rfl,trivial⟩,⟨rfl,rfl,trivial⟩⟩
abbrev ay1(y:Int):CV:=I y
def PS(s:List Came)(f:Came->Option Bool):Nat->Int->Option (Int)
 |0,_=>none
 |fu1+1,v1=>bif decide (v1<((s.map N9).length:Int))then(Option.bind (ix s v1) λx3=>Option.bind (f x3) λy5=>bif y5 then some (v1)else PS s f fu1 (IntKind.i64.wrap (v1+1)))else some ((-1))
def bX6(N:Nat)(s:N7)(f:Came->U7):gQ:=PS s f N 0
def do0{N:Nat}{s:N7}{f:Came->U7}{r:Int}{iD:FuncId}{iC:G9}(pX:∀z0 y,f z0=some y->Holds prog Gw iD (.agg (N9 z0)::iC) (B y))(hF:bX6 N s f=some r):Holds prog Gw 111 [.sl 4 (s.map N9),.fn iD iC] (ay1 r):=by
 refine V9 O9 mixed func111 (by decide) rfl (I8 rfl) ?_;refine iE (λp:Nat×Int=>[(0,.c (.sl 4 (s.map N9))),(1,.c (.fn iD iC)),(7,.c (I ((s.map N9).length:Int))),(8,.c (I p.2))]) (λ_=>[]) (λp=>PS s f p.1 p.2=some r) (λp=>p.1) (N,0) hF ⟨rfl,rfl,rfl,rfl,trivial⟩ trivial ?_;rintro⟨fu1,v1⟩ hF;cases fu1 with
 |zero=>exact nomatch hF
 |succ fu1=>
  refine P6 ?_;refine C9 (λh2=>?_) (λh2=>?_)
  .have hF:=D6 h2 hF;refine P6 ?_;refine E5 hF λx3 h4 hF=>?_;refine⟨aT h4,.inl rfl,_,bK N9 h4,?_⟩;refine E5 hF λy5 h6 hF=>?_;refine l9 ⟨_,pX _ _ h6,rfl,?_⟩;refine C9 (λh7=>?_) (λh7=>?_)
   .have hF:=D6 h7 hF;exact l9 ⟨rfl,congrArg (Option.map ay1) hF⟩
   .have hF:=D5 h7 hF;exact⟨(fu1,(IntKind.i64.wrap (v1+1))),aP _,hF,⟨rfl,rfl,rfl,rfl,trivial⟩,trivial⟩
  .have hF:=D5 h2 hF;exact l9 ⟨rfl,congrArg (Option.map ay1) hF⟩
abbrev ay2(s:N7)(f:Came->U7):gQ:=bX6 (s.length+1) s f
def bX8{s:N7}{f:Came->U7}{r:Int}{iD:FuncId}{iC:G9}(pX:∀z0 y,f z0=some y->Holds prog Gw iD (.agg (N9 z0)::iC) (B y))(h:ay2 s f=some r):Holds prog Gw 111 [.sl 4 (s.map N9),.fn iD iC] (ay1 r):=do0 pX h
abbrev bW9(y:Bool):CV:=B y
def ah5(s:N7)(f:Came->U7):U7:=Option.bind (ay2 s f) λy1=>some (decide (y1>=0))
def bX1{s:N7}{f:Came->U7}{r:Bool}{iD:FuncId}{iC:G9}(pX:∀z0 y,f z0=some y->Holds prog Gw iD (.agg (N9 z0)::iC) (B y))(hF:ah5 s f=some r):Holds prog Gw 257 [.sl 4 (s.map N9),.fn iD iC] (bW9 r):=by
 refine V9 O9 mixed func257 (by decide) rfl (I8 rfl) ?_;refine E5 hF λy1 h2 hF=>?_;refine l9 ⟨_,bX8 pX h2,rfl,?_⟩;exact l9 ⟨rfl,congrArg (Option.map bW9) hF⟩
abbrev bN7(y:Bool):CV:=B y
def aX0(c:Came)(c0:Int):U7:=some ((c.Unit==c0))
def da7{c:Came}{c0:Int}{r:Bool}(hF:aX0 c c0=some r):Holds prog Gw 236 [.agg (N9 c),.pi [I c0] 0] (bN7 r):=by
 refine V9 O9 mixed func236 (by decide) rfl (I8 rfl) ?_;refine l9 ?_;exact l9 ⟨rfl,congrArg (Option.map bN7) hF⟩
abbrev aX1(y:Origin×Bool):CV:=.U6 [.agg (aG2 y.1),B y.2]
def au4(l:N7)(unit:Int):Option (Origin×Bool):=Option.bind (ay2 l (λz0=>aX0 z0 unit)) λy1=>bif decide (y1<0)then some ((⟨0,0,0⟩:Origin),false)else(Option.bind (ix l y1) λx4=>some (x4.Origin,true))
def da8{l:N7}{unit:Int}{r:Origin×Bool}(hF:au4 l unit=some r):Holds prog Gw 148 [.sl 4 (l.map N9),I unit] (aX1 r):=by
 refine V9 O9 mixed func148 (by decide) rfl (I8 rfl) ?_;refine l9 ?_;refine l9 ?_;refine E5 hF λy1 h2 hF=>?_;refine l9 ⟨_,bX8 (λ_ _ h=>da7 h) h2,rfl,?_⟩;refine C9 (λh3=>?_) (λh3=>?_)
 .have hF:=D6 h3 hF;refine l9 ?_;exact l9 ⟨rfl,congrArg (Option.map aX1) hF⟩
 .have hF:=D5 h3 hF;refine E5 hF λx4 h5 hF=>?_;refine⟨aT h5,.inl rfl,_,bK N9 h5,?_⟩;exact l9 ⟨rfl,congrArg (Option.map aX1) hF⟩
abbrev a02(y:Bool):CV:=B y
def xI(n:Int)(low:Int)(high:Int):U7:=bif decide (low<=n)then some (decide (n<=high))else some (false)
def DX{n:Int}{low:Int}{high:Int}{r:Bool}(hF:xI n low high=some r):Holds prog Gw 82 [I n,I low,I high] (a02 r):=by
 refine V9 O9 mixed func82 (by decide) rfl (I8 rfl) ?_;refine P6 ?_;refine C9 (λh1=>?_) (λh1=>?_)
 .have hF:=D6 h1 hF;exact l9 ⟨rfl,congrArg (Option.map a02) hF⟩
 .have hF:=D5 h1 hF;exact l9 ⟨rfl,congrArg (Option.map a02) hF⟩
abbrev PI(y:Bool):CV:=B y
def aw7(s:Str):U7:=bif decide ((s.length:Int)<1)then some (false)else(bif decide ((s.length:Int)>64)then some (false)else(Option.bind (ix s 0) λb3=>bif ((b3.toNat:Int)==32)then some (false)else(Option.bind (ix s (IntKind.i64.wrap ((s.length:Int)-1))) λb6=>bif ((b6.toNat:Int)==32)then some (false)else(Option.bind (ag6 s ([32,32]:Str)) λy9=>bif y9 then some (false)else(Option.bind (xJ 32 s) λnY=>some ((!nY)))))))
def bT7{s:Str}{r:Bool}(hF:aw7 s=some r):Holds prog Gw 83 [S s] (PI r):=by
 refine V9 O9 mixed func83 (by decide) rfl (I8 rfl) ?_;refine P6 ?_;refine C9 (λh1=>?_) (λh1=>?_)
 .have hF:=D6 h1 hF;exact l9 ⟨rfl,congrArg (Option.map PI) hF⟩
 .have hF:=D5 h1 hF;refine C9 (λh2=>?_) (λh2=>?_)
  .have hF:=D6 h2 hF;exact l9 ⟨rfl,congrArg (Option.map PI) hF⟩
  .have hF:=D5 h2 hF;refine l9 ?_;refine E5 hF λb3 h4 hF=>?_;refine⟨aT h4,_,ar7 h4,?_⟩;refine C9 (λh5=>?_) (λh5=>?_)
   .have hF:=D6 h5 hF;exact l9 ⟨rfl,congrArg (Option.map PI) hF⟩
   .have hF:=D5 h5 hF;refine l9 ?_;refine E5 hF λb6 h7 hF=>?_;refine⟨aT h7,_,ar7 h7,?_⟩;refine C9 (λh8=>?_) (λh8=>?_)
    .have hF:=D6 h8 hF;exact l9 ⟨rfl,congrArg (Option.map PI) hF⟩
    .have hF:=D5 h8 hF;refine E5 hF λy9 h10 hF=>?_;refine l9 ⟨_,bV8 h10,rfl,?_⟩;refine C9 (λh11=>?_) (λh11=>?_)
     .have hF:=D6 h11 hF;exact l9 ⟨rfl,congrArg (Option.map PI) hF⟩
     .have hF:=D5 h11 hF;refine E5 hF λnY h13 hF=>?_;refine l9 ⟨_,di3 h13,rfl,?_⟩;exact l9 ⟨rfl,congrArg (Option.map PI) hF⟩
abbrev aZ7(y:Bool):CV:=B y
def aw6(s:Str):U7:=bif decide ((s.length:Int)<=64)then(Option.bind (xJ 33 s) λy2=>some ((!y2)))else some (false)
def bT6{s:Str}{r:Bool}(hF:aw6 s=some r):Holds prog Gw 84 [S s] (aZ7 r):=by
 refine V9 O9 mixed func84 (by decide) rfl (I8 rfl) ?_;refine P6 ?_;refine C9 (λh1=>?_) (λh1=>?_)
 .have hF:=D6 h1 hF;refine E5 hF λy2 h3 hF=>?_;refine l9 ⟨_,di2 h3,rfl,?_⟩;exact l9 ⟨rfl,congrArg (Option.map aZ7) hF⟩
 .have hF:=D5 h1 hF;exact l9 ⟨rfl,congrArg (Option.map aZ7) hF⟩
abbrev PK(y:Bool):CV:=B y
def aw8(o:Origin):U7:=Option.bind (xI o.bQ 0 1073741824) λy1=>bif y1 then(Option.bind (xI o.X3 1 1073741824) λy4=>bif y4 then(Option.bind (xI o.Number 1 9999) λy7=>bif y7 then some (true)else(bif (o.X3==0)then some ((o.Number==0))else some (false)))else(bif (o.X3==0)then some ((o.Number==0))else some (false)))else some (false)
def dg6{o:Origin}{r:Bool}(hF:aw8 o=some r):Holds prog Gw 85 [.agg (aG2 o)] (PK r):=by
 refine V9 O9 mixed func85 (by decide) rfl (I8 rfl) ?_;refine l9 ?_;refine P6 ?_;refine E5 hF λy1 h2 hF=>?_;refine l9 ⟨_,DX h2,rfl,?_⟩;refine C9 (λh3=>?_) (λh3=>?_)
 .have hF:=D6 h3 hF;refine E5 hF λy4 h5 hF=>?_;refine l9 ⟨_,DX h5,rfl,?_⟩;refine C9 (λh6=>?_) (λh6=>?_)
  .have hF:=D6 h6 hF;refine E5 hF λy7 h8 hF=>?_;refine l9 ⟨_,DX h8,rfl,?_⟩;refine C9 (λh9=>?_) (λh9=>?_)
   .have hF:=D6 h9 hF;exact l9 ⟨rfl,congrArg (Option.map PK) hF⟩
   .have hF:=D5 h9 hF;refine C9 (λh10=>?_) (λh10=>?_)
    .have hF:=D6 h10 hF;exact l9 ⟨rfl,congrArg (Option.map PK) hF⟩
    .have hF:=D5 h10 hF;exact l9 ⟨rfl,congrArg (Option.map PK) hF⟩
  .have hF:=D5 h6 hF;refine C9 (λh11=>?_) (λh11=>?_)
   .have hF:=D6 h11 hF;exact l9 ⟨rfl,congrArg (Option.map PK) hF⟩
   .have hF:=D5 h11 hF;exact l9 ⟨rfl,congrArg (Option.map PK) hF⟩
 .have hF:=D5 h3 hF;exact l9 ⟨rfl,congrArg (Option.map PK) hF⟩
abbrev lS(y:Bool):CV:=B y
def af7(o:Opn)(aY0:Bool):U7:=bif (o.Kind==1)then(bif aY0 then(Option.bind (xI o.Level 1 4) λlW=>bif lW then(Option.bind (aw7 o.Title) λy21=>bif y21 then(Option.bind (aw6 o.Mark) λy24=>bif y24 then(Option.bind (aw8 o.Origin) λy27=>some (y27))else some (false))else some (false))else some (false))else some (false))else(bif (o.Kind==2)then(bif aY0 then some ((o==(⟨o.ID,o.Day,o.Kind,o.Unit,o.Parent,o.Before,0,([]:Str),([]:Str),(⟨0,0,0⟩:Origin)⟩:Opn)))else some (false))else(bif (o.Kind==3)then(Option.bind (aw7 o.Title) λy32=>bif y32 then some ((o==(⟨o.ID,o.Day,o.Kind,o.Unit,0,0,0,o.Title,([]:Str),(⟨0,0,0⟩:Origin)⟩:Opn)))else some (false))else(bif (o.Kind==4)then(Option.bind (aw6 o.Mark) λy36=>bif y36 then some ((o==(⟨o.ID,o.Day,o.Kind,o.Unit,0,0,0,([]:Str),o.Mark,(⟨0,0,0⟩:Origin)⟩:Opn)))else some (false))else(bif (o.Kind==5)then(bif (o.Kind==5)then some ((o==(⟨o.ID,o.Day,o.Kind,o.Unit,0,0,0,([]:Str),([]:Str),(⟨0,0,0⟩:Origin)⟩:Opn)))else some (false))else(bif (o.Kind==6)then some ((o==(⟨o.ID,o.Day,o.Kind,o.Unit,0,0,0,([]:Str),([]:Str),(⟨0,0,0⟩:Origin)⟩:Opn)))else some (false))))))
def JE(o:Opn):U7:=Option.bind (xI o.ID 1 1073741824) λy1=>bif (!y1)then some (false)else(Option.bind (xI o.Day 0 1048575) λy4=>bif (!y4)then some (false)else(Option.bind (xI o.Unit 1 1073741824) λy7=>bif (!y7)then some (false)else(Option.bind (xI o.Parent 0 1073741824) λkL=>bif kL then(Option.bind (xI o.Before 0 1073741824) λy13=>af7 o y13)else af7 o false)))
def bT4{o:Opn}{r:Bool}(hF:JE o=some r):Holds prog Gw 37 [.agg (G7 o)] (lS r):=by
 refine V9 O9 mixed func37 (by decide) rfl (I8 rfl) ?_;refine l9 ?_;refine P6 ?_;refine E5 hF λy1 h2 hF=>?_;refine l9 ⟨_,DX h2,rfl,?_⟩;refine C9 (λh3=>?_) (λh3=>?_)
 .have hF:=D6 h3 hF;exact l9 ⟨rfl,congrArg (Option.map lS) hF⟩
 .have hF:=D5 h3 hF;refine E5 hF λy4 h5 hF=>?_;refine l9 ⟨_,DX h5,rfl,?_⟩;refine C9 (λh6=>?_) (λh6=>?_)
  .have hF:=D6 h6 hF;exact l9 ⟨rfl,congrArg (Option.map lS) hF⟩
  .have hF:=D5 h6 hF;refine E5 hF λy7 h8 hF=>?_;refine l9 ⟨_,DX h8,rfl,?_⟩;refine C9 (λh9=>?_) (λh9=>?_)
   .have hF:=D6 h9 hF;exact l9 ⟨rfl,congrArg (Option.map lS) hF⟩
   .have hF:=D5 h9 hF;refine NS (λp:Bool=>[(1,.pm 1 0 0),(3,.c (B p))]) (λp:Bool=>[(1,.var [I o.ID,I o.Day,I o.Kind,I o.Unit,I o.Parent,I o.Before,I o.Level,S o.Title,S o.Mark,I o.Origin.bQ,I o.Origin.X3,I o.Origin.Number])]) (λp=>af7 o p=some r) ?_ ?_
    .intro aY0 hF;refine l9 ?_;refine l9 ?_;refine C9 (λh16=>?_) (λh16=>?_)
     .have hF:=D6 h16 hF;refine P6 ?_;refine C9 (λh17=>?_) (λh17=>?_)
      .have hF:=D6 h17 hF;refine E5 hF λlW h19 hF=>?_;refine l9 ⟨_,DX h19,rfl,?_⟩;refine C9 (λh20=>?_) (λh20=>?_)
       .have hF:=D6 h20 hF;refine E5 hF λy21 h22 hF=>?_;refine l9 ⟨_,bT7 h22,rfl,?_⟩;refine C9 (λh23=>?_) (λh23=>?_)
        .have hF:=D6 h23 hF;refine E5 hF λy24 vH hF=>?_;refine l9 ⟨_,bT6 vH,rfl,?_⟩;refine C9 (λnN=>?_) (λnN=>?_)
         .have hF:=D6 nN hF;refine E5 hF λy27 h28 hF=>?_;refine l9 ⟨_,dg6 h28,rfl,?_⟩;exact l9 ⟨rfl,congrArg (Option.map lS) hF⟩
         .have hF:=D5 nN hF;exact l9 ⟨rfl,congrArg (Option.map lS) hF⟩
        .have hF:=D5 h23 hF;exact l9 ⟨rfl,congrArg (Option.map lS) hF⟩
       .have hF:=D5 h20 hF;exact l9 ⟨rfl,congrArg (Option.map lS) hF⟩
      .have hF:=D5 h17 hF;exact l9 ⟨rfl,congrArg (Option.map lS) hF⟩
     .have hF:=D5 h16 hF;refine C9 (λtC=>?_) (λtC=>?_)
      .have hF:=D6 tC hF;refine C9 (by kernel_rfl) ?_;refine P6 ?_;refine C9 (λh30=>?_) (λh30=>?_)
       .have hF:=D6 h30 hF;refine J5 ⟨[],0,_,_,_,_,rfl,rfl,ah2 o (⟨o.ID,o.Day,o.Kind,o.Unit,o.Parent,o.Before,0,([]:Str),([]:Str),(⟨0,0,0⟩:Origin)⟩:Opn),rfl,?_⟩;exact l9 ⟨rfl,congrArg (Option.map lS) hF⟩
       .have hF:=D5 h30 hF;exact l9 ⟨rfl,congrArg (Option.map lS) hF⟩
      .have hF:=D5 tC hF;refine C9 (λh31=>?_) (λh31=>?_)
       .have hF:=D6 h31 hF;refine P6 ?_;refine E5 hF λy32 BO hF=>?_;refine l9 ⟨_,bT7 BO,rfl,?_⟩;refine C9 (λwU=>?_) (λwU=>?_)
        .have hF:=D6 wU hF;refine J5 ⟨[],0,_,_,_,_,rfl,rfl,ah2 o (⟨o.ID,o.Day,o.Kind,o.Unit,0,0,0,o.Title,([]:Str),(⟨0,0,0⟩:Origin)⟩:Opn),rfl,?_⟩;exact l9 ⟨rfl,congrArg (Option.map lS) hF⟩
        .have hF:=D5 wU hF;exact l9 ⟨rfl,congrArg (Option.map lS) hF⟩
       .have hF:=D5 h31 hF;refine C9 (λh35=>?_) (λh35=>?_)
        .have hF:=D6 h35 hF;refine P6 ?_;refine E5 hF λy36 h37 hF=>?_;refine l9 ⟨_,bT6 h37,rfl,?_⟩;refine C9 (λh38=>?_) (λh38=>?_)
         .have hF:=D6 h38 hF;refine J5 ⟨[],0,_,_,_,_,rfl,rfl,ah2 o (⟨o.ID,o.Day,o.Kind,o.Unit,0,0,0,([]:Str),o.Mark,(⟨0,0,0⟩:Origin)⟩:Opn),rfl,?_⟩;exact l9 ⟨rfl,congrArg (Option.map lS) hF⟩
         .have hF:=D5 h38 hF;exact l9 ⟨rfl,congrArg (Option.map lS) hF⟩
        .have hF:=D5 h35 hF;refine C9 (λMZ=>?_) (λMZ=>?_)
         .have hF:=D6 MZ hF;refine C9 (λyP=>?_) (λyP=>?_)
          .have hF:=D6 yP hF;refine J5 ⟨[],0,_,_,_,_,rfl,rfl,ah2 o (⟨o.ID,o.Day,o.Kind,o.Unit,0,0,0,([]:Str),([]:Str),(⟨0,0,0⟩:Origin)⟩:Opn),rfl,?_⟩;exact l9 ⟨rfl,congrArg (Option.map lS) hF⟩
          .have hF:=D5 yP hF;exact l9 ⟨rfl,congrArg (Option.map lS) hF⟩
         .have hF:=D5 MZ hF;refine C9 (λtH=>?_) (λtH=>?_)
          .have hF:=D6 tH hF;refine J5 ⟨[],0,_,_,_,_,rfl,rfl,ah2 o (⟨o.ID,o.Day,o.Kind,o.Unit,0,0,0,([]:Str),([]:Str),(⟨0,0,0⟩:Origin)⟩:Opn),rfl,?_⟩;exact l9 ⟨rfl,congrArg (Option.map lS) hF⟩
          .have hF:=D5 tH hF;exact l9 ⟨rfl,congrArg (Option.map lS) hF⟩
    .show dW _ _ _ _ _ _;refine E5 hF λkL h11 hF=>?_;refine l9 ⟨_,DX h11,rfl,?_⟩;refine C9 (λh12=>?_) (λh12=>?_)
     .have hF:=D6 h12 hF;refine E5 hF λy13 dL hF=>?_;refine l9 ⟨_,DX dL,rfl,?_⟩;exact⟨y13,hF,⟨rfl,rfl,trivial⟩,⟨rfl,trivial⟩⟩
     .have hF:=D5 h12 hF;exact⟨false,hF,⟨rfl,rfl,trivial⟩,⟨rfl,trivial⟩⟩
abbrev aY6(y:Int):CV:=I y
def JD(o:Opn):gQ:=Option.bind (JE o) λy1=>bif (!y1)then some (1)else some (0)
def dd2{o:Opn}{r:Int}(hF:JD o=some r):Holds prog Gw 147 [.agg (G7 o)] (aY6 r):=by
 refine V9 O9 mixed func147 (by decide) rfl (I8 rfl) ?_;refine l9 ?_;refine E5 hF λy1 h2 hF=>?_;refine l9 ⟨_,bT4 h2,rfl,?_⟩;refine C9 (λh3=>?_) (λh3=>?_)
 .have hF:=D6 h3 hF;exact l9 ⟨rfl,congrArg (Option.map aY6) hF⟩
 .have hF:=D5 h3 hF;exact l9 ⟨rfl,congrArg (Option.map aY6) hF⟩
abbrev bU5(y:Bool):CV:=B y
def bU6(t:Tree):U7:=Option.bind (JM t) λy1=>some ((y1.2==0))
def dh3{t:Tree}{r:Bool}(hF:bU6 t=some r):Holds prog Gw 38 [.agg (gW t)] (bU5 r):=by
 refine V9 O9 mixed func38 (by decide) rfl (I8 rfl) ?_;refine l9 ?_;refine E5 hF λy1 h2 hF=>?_;refine l9 ⟨_,bc7 h2,rfl,?_⟩;exact l9 ⟨rfl,congrArg (Option.map bU5) hF⟩
def ad5(a:List Int)(b:List Int):Nat->Int->Option (Bool)
 |0,_=>none
 |fu1+1,i2=>bif decide (i2<((a.map F8).length:Int))then(Option.bind (ix a i2) λx4=>Option.bind (ix b i2) λx6=>bif (x4 !=x6)then some (false)else ad5 a b fu1 (IntKind.i64.wrap (i2+1)))else some (true)
def aU0(N:Nat)(a:F6)(b:F6):U7:=bif (((a.map F8).length:Int) !=((b.map F8).length:Int))then some (false)else ad5 a b N 0
abbrev aU1:=aU0 1000
def ac7(a:Tree)(b:Tree):Nat->Int->Option (Bool)
 |0,_=>none
 |fu1+1,i5=>bif decide (i5<((a.Branches.map I4).length:Int))then(Option.bind (ix a.Branches i5) λx7=>Option.bind (ix b.Branches i5) λx9=>bif (!(x7.Unit==x9.Unit))then some (false)else(Option.bind (ix a.Branches i5) λx12=>Option.bind (ix b.Branches i5) λx14=>Option.bind (aU1 x12.Kids x14.Kids) λzJ=>bif (!zJ)then some (false)else ac7 a b fu1 (IntKind.i64.wrap (i5+1))))else some (true)
def aT3(N:Nat)(a:Tree)(b:Tree):U7:=Option.bind (aU1 a.Q7 b.Q7) λy1=>bif (!y1)then some (false)else(bif (((a.Branches.map I4).length:Int) !=((b.Branches.map I4).length:Int))then some (false)else ac7 a b N 0)
abbrev ac8:=aT3 1000
abbrev aV2(y:Bool):CV:=B y
def bK7(o:Opn):U7:=bif decide ((o.Title.length:Int)<=100)then some (decide ((o.Mark.length:Int)<=100))else some (false)
def c82{o:Opn}{r:Bool}(hF:bK7 o=some r):Holds prog Gw 28 [.agg (G7 o)] (aV2 r):=by
 refine V9 O9 mixed func28 (by decide) rfl (I8 rfl) ?_;refine l9 ?_;refine P6 ?_;refine C9 (λh1=>?_) (λh1=>?_)
 .have hF:=D6 h1 hF;exact l9 ⟨rfl,congrArg (Option.map aV2) hF⟩
 .have hF:=D5 h1 hF;exact l9 ⟨rfl,congrArg (Option.map aV2) hF⟩
abbrev av7(y:Bool):CV:=B y
def VY(l:List Opn):Nat->Int->Option (Bool)
 |0,_=>none
 |fu1+1,i1=>bif decide (i1<((l.map G7).length:Int))then(Option.bind (ix l i1) λx3=>Option.bind (bK7 x3) λy5=>bif (!y5)then some (false)else VY l fu1 (IntKind.i64.wrap (i1+1)))else some (decide (((l.map G7).length:Int)<=24))
def bP9(N:Nat)(l:F5):U7:=VY l N 0
def dc4{N:Nat}{l:F5}{r:Bool}(hF:bP9 N l=some r):Holds prog Gw 6 [.sl 12 (l.map G7)] (av7 r):=by
 refine V9 O9 mixed func6 (by decide) rfl (I8 rfl) ?_;refine iE (λp:Nat×Int=>[(0,.c (.sl 12 (l.map G7))),(3,.c (I p.2))]) (λ_=>[]) (λp=>VY l p.1 p.2=some r) (λp=>p.1) (N,0) hF ⟨rfl,rfl,trivial⟩ trivial ?_;rintro⟨fu1,i1⟩ hF;cases fu1 with
 |zero=>exact nomatch hF
 |succ fu1=>
  refine C9 (λh2=>?_) (λh2=>?_)
  .have hF:=D6 h2 hF;refine P6 ?_;refine E5 hF λx3 h4 hF=>?_;refine⟨aT h4,.inl rfl,_,bK G7 h4,?_⟩;refine E5 hF λy5 h6 hF=>?_;refine l9 ⟨_,c82 h6,rfl,?_⟩;refine C9 (λh7=>?_) (λh7=>?_)
   .have hF:=D6 h7 hF;exact l9 ⟨rfl,congrArg (Option.map av7) hF⟩
   .have hF:=D5 h7 hF;exact⟨(fu1,(IntKind.i64.wrap (i1+1))),aP _,hF,⟨rfl,rfl,trivial⟩,trivial⟩
  .have hF:=D5 h2 hF;exact l9 ⟨rfl,congrArg (Option.map av7) hF⟩
abbrev av8(l:F5):U7:=bP9 (l.length+1) l
def dc5{l:F5}{r:Bool}(h:av8 l=some r):Holds prog Gw 6 [.sl 12 (l.map G7)] (av7 r):=dc4 h
abbrev aB7(y:Bool):CV:=B y
def zI(o:Opn):U7:=bif (o.Kind==1)then some ((!(o.Mark==([]:Str))))else(bif (o.Kind==4)then some ((!(o.Mark==([]:Str))))else some (false))
def aj1{o:Opn}{r:Bool}(hF:zI o=some r):Holds prog Gw 91 [.agg (G7 o)] (aB7 r):=by
 refine V9 O9 mixed func91 (by decide) rfl (I8 rfl) ?_;refine l9 ?_;refine P6 ?_;refine C9 (λh1=>?_) (λh1=>?_)
 .have hF:=D6 h1 hF;exact l9 ⟨rfl,congrArg (Option.map aB7) hF⟩
 .have hF:=D5 h1 hF;refine C9 (λh2=>?_) (λh2=>?_)
  .have hF:=D6 h2 hF;exact l9 ⟨rfl,congrArg (Option.map aB7) hF⟩
  .have hF:=D5 h2 hF;exact l9 ⟨rfl,congrArg (Option.map aB7) hF⟩
abbrev ay3(y:Int):CV:=I y
def PU(s:List Opn)(f:Opn->Option Bool):Nat->Int->Option (Int)
 |0,_=>none
 |fu1+1,v1=>bif decide (v1<((s.map G7).length:Int))then(Option.bind (ix s v1) λx3=>Option.bind (f x3) λy5=>bif y5 then some (v1)else PU s f fu1 (IntKind.i64.wrap (v1+1)))else some ((-1))
def bX9(N:Nat)(s:F5)(f:Opn->U7):gQ:=PU s f N 0
def do1{N:Nat}{s:F5}{f:Opn->U7}{r:Int}{iD:FuncId}{iC:G9}(pX:∀z0 y,f z0=some y->Holds prog Gw iD (.agg (G7 z0)::iC) (B y))(hF:bX9 N s f=some r):Holds prog Gw 13 [.sl 12 (s.map G7),.fn iD iC] (ay3 r):=by
 refine V9 O9 mixed func13 (by decide) rfl (I8 rfl) ?_;refine iE (λp:Nat×Int=>[(0,.c (.sl 12 (s.map G7))),(1,.c (.fn iD iC)),(7,.c (I ((s.map G7).length:Int))),(8,.c (I p.2))]) (λ_=>[]) (λp=>PU s f p.1 p.2=some r) (λp=>p.1) (N,0) hF ⟨rfl,rfl,rfl,rfl,trivial⟩ trivial ?_;rintro⟨fu1,v1⟩ hF;cases fu1 with
 |zero=>exact nomatch hF
 |succ fu1=>
  refine P6 ?_;refine C9 (λh2=>?_) (λh2=>?_)
  .have hF:=D6 h2 hF;refine P6 ?_;refine E5 hF λx3 h4 hF=>?_;refine⟨aT h4,.inl rfl,_,bK G7 h4,?_⟩;refine E5 hF λy5 h6 hF=>?_;refine l9 ⟨_,pX _ _ h6,rfl,?_⟩;refine C9 (λh7=>?_) (λh7=>?_)
   .have hF:=D6 h7 hF;exact l9 ⟨rfl,congrArg (Option.map ay3) hF⟩
   .have hF:=D5 h7 hF;exact⟨(fu1,(IntKind.i64.wrap (v1+1))),aP _,hF,⟨rfl,rfl,rfl,rfl,trivial⟩,trivial⟩
  .have hF:=D5 h2 hF;exact l9 ⟨rfl,congrArg (Option.map ay3) hF⟩
abbrev ah8(s:F5)(f:Opn->U7):gQ:=bX9 (s.length+1) s f
def do2{s:F5}{f:Opn->U7}{r:Int}{iD:FuncId}{iC:G9}(pX:∀z0 y,f z0=some y->Holds prog Gw iD (.agg (G7 z0)::iC) (B y))(h:ah8 s f=some r):Holds prog Gw 13 [.sl 12 (s.map G7),.fn iD iC] (ay3 r):=do1 pX h
end
end Go.Proofs.YtibiibjbmhckgaaGreatDoor
section
namespace Go.Ev
open Go Go.F7
noncomputable section
def oB{α β:Type}(a:Option α)(k:α->Option β):Option β:=Option.rec (motive:=λ_=>Option β) none k a
def bq{α:Type}(c:Bool)(a b:α):α:=Bool.rec (motive:=λ_=>α) b a c
def bg{β:Type}(c:Bool)(k:Option β):Option β:=Bool.rec (motive:=λ_=>Option β) none k c
inductive Pa where
 |e
 |a (p:Pa)
 |b (p:Pa)
 |z
inductive Tr(α:Type) where
 |lf
 |nd (v:Option α) (a b:Tr α)
def OT(m:Nat):Nat->Pa:=
 Nat.rec (motive:=λ_=>Nat->Pa) (λ_=>.z) (λ_ ih k=>bq (Nat.beq k 0) .e (bq (Nat.beq (Nat.mod k 2) 1) (.a (ih (Nat.div k 2))) (.b (ih (Nat.sub (Nat.div k 2) 1))))) m
def pa(k:Nat):Pa:=OT 18 k
def Tr.get{α:Type}(t:Tr α):Pa->Option α:=
 Tr.rec (motive:=λ_=>Pa->Option α) (λ_=>none)
   (λv _ _ ia ib p=>Pa.rec (motive:=λ_=>Option α) v (λp _=>ia p) (λp _=>ib p) none p) t
def Tr.set{α:Type}(t:Tr α):Pa->Option α->Tr α:=
 Tr.rec (motive:=λ_=>Pa->Option α->Tr α) (λ_ _=>.lf)
   (λv a b ia ib p x=>Pa.rec (motive:=λ_=>Tr α) (.nd x a b) (λp _=>.nd v (ia p x) b) (λp _=>.nd v a (ib p x)) (.nd v a b) p) t
def full(α:Type)(n:Nat):Tr α:=Nat.rec (motive:=λ_=>Tr α) .lf (λ_ t=>.nd none t t) n
inductive Bt(α:Type) where
 |lf
 |nd (k:Nat) (v:α) (a b:Bt α)
def Bt.get{α:Type}(t:Bt α)(k:Nat):Option α:=
 Bt.rec (motive:=λ_=>Option α) none (λj v _ _ ia ib=>bq (Nat.beq k j) (some v) (bq (Nat.blt k j) ia ib)) t
inductive AV where
 |n (k:IntKind) (n:Nat)
 |neg (k:IntKind) (n:Nat)
 |q (b:Bool)
 |str (l:List Nat)
 |ns
 |np
 |nm
 |nf
 |ni
 |p (b o:Nat)
 |s (b o l:Nat) (c:Option Nat)
 |m (b:Nat)
 |f (f:FuncId) (fs caps:List AV)
 |y (b:Nat)
 |g (cs:List AV)
 |t (cs:List AV)
abbrev J7:=List AV
abbrev kS:=List (AV×AV)
abbrev wF:=Option (List AV)
abbrev pK:=Option AV
structure Nd(β:Type) where
 v:Option AV
 a:β
 b:β
def sV{β:Type}(x:AV)(e:Nd β):Nd β:=Nd.rec (motive:=λ_=>Nd β) (λ_ a b=>⟨some x,a,b⟩) e
def sA{β:Type}(f:β->β)(e:Nd β):Nd β:=Nd.rec (motive:=λ_=>Nd β) (λv a b=>⟨v,f a,b⟩) e
def sB{β:Type}(f:β->β)(e:Nd β):Nd β:=Nd.rec (motive:=λ_=>Nd β) (λv a b=>⟨v,a,f b⟩) e
abbrev Env:=Nd (Nd (Nd (Nd (Nd (Nd (Nd (Nd Unit)))))))
def n0{β:Type}(x:β):Nd β:=⟨none,x,x⟩
def zeroE:Env:=n0 (n0 (n0 (n0 (n0 (n0 (n0 (n0 ())))))))
structure Fl(β:Type) where
 g:β->Option AV
 s:AV->β->β
abbrev Fld:=Fl Env
def kV{β:Type}:Fl (Nd β):=⟨λe=>e.v,λx e=>sV x e⟩
def kA{β:Type}(f:Fl β):Fl (Nd β):=⟨λe=>f.g e.a,λx e=>sA (f.s x) e⟩
def kB{β:Type}(f:Fl β):Fl (Nd β):=⟨λe=>f.g e.b,λx e=>sB (f.s x) e⟩
def bu4:List Fld:=
 [kV,kA kV,kB kV,kA (kA kV),kB (kA kV),kA (kB kV),kB (kB kV),kA (kA (kA kV)),kB (kA (kA kV)),kA (kB (kA kV)),kB (kB (kA kV)),kA (kA (kB kV)),kB (kA (kB kV)),kA (kB (kB kV)),kB (kB (kB kV)),kA (kA (kA (kA kV))),kB (kA (kA (kA kV))),kA (kB (kA (kA kV))),kB (kB (kA (kA kV))),kA (kA (kB (kA kV))),kB (kA (kB (kA kV))),kA (kB (kB (kA kV))),kB (kB (kB (kA kV))),kA (kA (kA (kB kV))),kB (kA (kA (kB kV))),kA (kB (kA (kB kV))),kB (kB (kA (kB kV))),kA (kA (kB (kB kV))),kB (kA (kB (kB kV))),kA (kB (kB (kB kV))),kB (kB (kB (kB kV))),kA (kA (kA (kA (kA kV)))),kB (kA (kA (kA (kA kV)))),kA (kB (kA (kA (kA kV)))),kB (kB (kA (kA (kA kV)))),kA (kA (kB (kA (kA kV)))),kB (kA (kB (kA (kA kV)))),kA (kB (kB (kA (kA kV)))),kB (kB (kB (kA (kA kV)))),kA (kA (kA (kB (kA kV)))),kB (kA (kA (kB (kA kV)))),kA (kB (kA (kB (kA kV)))),kB (kB (kA (kB (kA kV)))),kA (kA (kB (kB (kA kV)))),kB (kA (kB (kB (kA kV)))),kA (kB (kB (kB (kA kV)))),kB (kB (kB (kB (kA kV)))),kA (kA (kA (kA (kB kV)))),kB (kA (kA (kA (kB kV)))),kA (kB (kA (kA (kB kV)))),kB (kB (kA (kA (kB kV)))),kA (kA (kB (kA (kB kV)))),kB (kA (kB (kA (kB kV)))),kA (kB (kB (kA (kB kV)))),kB (kB (kB (kA (kB kV)))),kA (kA (kA (kB (kB kV)))),kB (kA (kA (kB (kB kV)))),kA (kB (kA (kB (kB kV)))),kB (kB (kA (kB (kB kV)))),kA (kA (kB (kB (kB kV)))),kB (kA (kB (kB (kB kV)))),kA (kB (kB (kB (kB kV)))),kB (kB (kB (kB (kB kV)))),kA (kA (kA (kA (kA (kA kV))))),kB (kA (kA (kA (kA (kA kV))))),kA (kB (kA (kA (kA (kA kV))))),kB (kB (kA (kA (kA (kA kV))))),kA (kA (kB (kA (kA (kA kV))))),kB (kA (kB (kA (kA (kA kV))))),kA (kB (kB (kA (kA (kA kV))))),kB (kB (kB (kA (kA (kA kV))))),kA (kA (kA (kB (kA (kA kV))))),kB (kA (kA (kB (kA (kA kV))))),kA (kB (kA (kB (kA (kA kV))))),kB (kB (kA (kB (kA (kA kV))))),kA (kA (kB (kB (kA (kA kV))))),kB (kA (kB (kB (kA (kA kV))))),kA (kB (kB (kB (kA (kA kV))))),kB (kB (kB (kB (kA (kA kV))))),kA (kA (kA (kA (kB (kA kV))))),kB (kA (kA (kA (kB (kA kV))))),kA (kB (kA (kA (kB (kA kV))))),kB (kB (kA (kA (kB (kA kV))))),kA (kA (kB (kA (kB (kA kV))))),kB (kA (kB (kA (kB (kA kV))))),kA (kB (kB (kA (kB (kA kV))))),kB (kB (kB (kA (kB (kA kV))))),kA (kA (kA (kB (kB (kA kV))))),kB (kA (kA (kB (kB (kA kV))))),kA (kB (kA (kB (kB (kA kV))))),kB (kB (kA (kB (kB (kA kV))))),kA (kA (kB (kB (kB (kA kV))))),kB (kA (kB (kB (kB (kA kV))))),kA (kB (kB (kB (kB (kA kV))))),kB (kB (kB (kB (kB (kA kV))))),kA (kA (kA (kA (kA (kB kV))))),kB (kA (kA (kA (kA (kB kV))))),kA (kB (kA (kA (kA (kB kV))))),kB (kB (kA (kA (kA (kB kV))))),kA (kA (kB (kA (kA (kB kV))))),kB (kA (kB (kA (kA (kB kV))))),kA (kB (kB (kA (kA (kB kV))))),kB (kB (kB (kA (kA (kB kV))))),kA (kA (kA (kB (kA (kB kV))))),kB (kA (kA (kB (kA (kB kV))))),kA (kB (kA (kB (kA (kB kV))))),kB (kB (kA (kB (kA (kB kV))))),kA (kA (kB (kB (kA (kB kV))))),kB (kA (kB (kB (kA (kB kV))))),kA (kB (kB (kB (kA (kB kV))))),kB (kB (kB (kB (kA (kB kV))))),kA (kA (kA (kA (kB (kB kV))))),kB (kA (kA (kA (kB (kB kV))))),kA (kB (kA (kA (kB (kB kV))))),kB (kB (kA (kA (kB (kB kV))))),kA (kA (kB (kA (kB (kB kV))))),kB (kA (kB (kA (kB (kB kV))))),kA (kB (kB (kA (kB (kB kV))))),kB (kB (kB (kA (kB (kB kV))))),kA (kA (kA (kB (kB (kB kV))))),kB (kA (kA (kB (kB (kB kV))))),kA (kB (kA (kB (kB (kB kV))))),kB (kB (kA (kB (kB (kB kV))))),kA (kA (kB (kB (kB (kB kV))))),kB (kA (kB (kB (kB (kB kV))))),kA (kB (kB (kB (kB (kB kV))))),kB (kB (kB (kB (kB (kB kV))))),kA (kA (kA (kA (kA (kA (kA kV)))))),kB (kA (kA (kA (kA (kA (kA kV)))))),kA (kB (kA (kA (kA (kA (kA kV)))))),kB (kB (kA (kA (kA (kA (kA kV)))))),kA (kA (kB (kA (kA (kA (kA kV)))))),kB (kA (kB (kA (kA (kA (kA kV)))))),kA (kB (kB (kA (kA (kA (kA kV)))))),kB (kB (kB (kA (kA (kA (kA kV)))))),kA (kA (kA (kB (kA (kA (kA kV)))))),kB (kA (kA (kB (kA (kA (kA kV)))))),kA (kB (kA (kB (kA (kA (kA kV)))))),kB (kB (kA (kB (kA (kA (kA kV)))))),kA (kA (kB (kB (kA (kA (kA kV)))))),kB (kA (kB (kB (kA (kA (kA kV)))))),kA (kB (kB (kB (kA (kA (kA kV)))))),kB (kB (kB (kB (kA (kA (kA kV)))))),kA (kA (kA (kA (kB (kA (kA kV)))))),kB (kA (kA (kA (kB (kA (kA kV)))))),kA (kB (kA (kA (kB (kA (kA kV)))))),kB (kB (kA (kA (kB (kA (kA kV)))))),kA (kA (kB (kA (kB (kA (kA kV)))))),kB (kA (kB (kA (kB (kA (kA kV)))))),kA (kB (kB (kA (kB (kA (kA kV)))))),kB (kB (kB (kA (kB (kA (kA kV)))))),kA (kA (kA (kB (kB (kA (kA kV)))))),kB (kA (kA (kB (kB (kA (kA kV)))))),kA (kB (kA (kB (kB (kA (kA kV)))))),kB (kB (kA (kB (kB (kA (kA kV)))))),kA (kA (kB (kB (kB (kA (kA kV)))))),kB (kA (kB (kB (kB (kA (kA kV)))))),kA (kB (kB (kB (kB (kA (kA kV)))))),kB (kB (kB (kB (kB (kA (kA kV)))))),kA (kA (kA (kA (kA (kB (kA kV))))))]
inductive AO where
 |c (el:Nat) (cs:List AV)
 |m (es:List (AV×AV))
 |l (q:Nat) (e:Env) (ps:List Nat) (aW body:Code) (j:Option Code)
 |si (s:List Nat) (pos:Nat)
 |mi (b:Nat) (seen:List Nat) (n:Nat)
abbrev Hp:=Tr AO
structure St where
 h:Hp
 nx:Nat
 ro:Nat
abbrev dI7:=Exit->St->Prop
def un:AV:=.t []
inductive CI where
 |v (x:AV)
 |s (el l:Nat) (cs:List AV)
abbrev A:=List CI
inductive Ex where
 |n
 |x (id:Nat)
 |r
inductive RO where
 |no
 |one (v:AV) (s:St)
 |many (l:List (AV×St))
inductive RC where
 |no
 |one (x:Ex) (e:Env) (s:St)
 |many (l:List (Ex×Env×St))
abbrev Runner:=Code->Env->St->RC
def oR{α:Type}(a:Option α)(k:α->RO):RO:=Option.rec (motive:=λ_=>RO) .no k a
def bR(c:Bool)(k:RO):RO:=Bool.rec (motive:=λ_=>RO) .no k c
section force
variable{R:Type}
def fN(n:Nat)(k:Nat->R):R:=Nat.rec (motive:=λ_=>R) (k 0) (λm _=>k (Nat.succ m)) n
def fL{α:Type}(l:List α)(k:List α->R):R:=List.rec (motive:=λ_=>(List α->R)->R) (λk=>k []) (λx _ ih k=>ih λr=>k (x::r)) l k
def fNs(l:O1)(k:O1->R):R:=List.rec (motive:=λ_=>(O1->R)->R) (λk=>k []) (λx _ ih k=>fN x λx=>ih λr=>k (x::r)) l k
def fI(k:IntKind)(i:Int)(K:AV->R):R:=Int.rec (motive:=λ_=>R) (λn=>fN n λn=>K (.n k n)) (λn=>fN n λn=>K (.neg k n)) i
def fQ(b:Bool)(K:AV->R):R:=Bool.rec (motive:=λ_=>R) (K (.q false)) (K (.q true)) b
end force
def SN(v:Value):Option AV:=match v with
 |.int k i=>some (fI k i id)
 |.bool b=>some (fQ b id)
 |.string s=>some (fNs (s.data.toList.map UInt8.toNat) .str)
 |.slice none 0 0=>some .ns
 |.pointer none=>some .np
 |.map none=>some .nm
 |.nilFunc=>some .nf
 |.nilIface=>some .ni
 |.tuple ⟨[]⟩=>some un
 |_=>none
def qX{α:Type}(n:Nat):List α->List α:=Nat.rec (motive:=λ_=>List α->List α) (λl=>l) (λ_ ih l=>List.rec (motive:=λ_=>List α) [] (λ_ r _=>ih r) l) n
def BM{α:Type}(l:List α)(n:Nat):Option α:=List.rec (motive:=λ_=>Option α) none (λx _ _=>some x) (qX n l)
def FZ(t:Nat):Fld:=Option.rec (motive:=λ_=>Fld) ⟨λ_=>none,λ_ e=>e⟩ (λf=>f) (BM bu4 t)
def fE(t:Nat)(e:Env):pK:=(FZ t).g e
def yM(t:Nat)(x:AV)(e:Env):Env:=(FZ t).s x e
structure OX where
 get:Env->Option AV
def bp8(o:Operand):OX:=Operand.rec (motive:=λ_=>OX) (λt=>⟨(FZ t).g⟩) (λv=>⟨λ_=>SN v⟩) (λ_=>⟨λ_=>none⟩) (λf=>⟨λ_=>some (.f f [] [])⟩) o
def look(o:Operand)(e:Env):pK:=(bp8 o).get e
def tX(l:List Operand)(e:Env):wF:=
 List.rec (motive:=λ_=>Env->wF) (λ_=>some []) (λx _ ih e=>oB (look x e) λa=>oB (ih e) λr=>some (a::r)) l e
section cz8
def EN(a:AV)(k:IntKind->Nat->RO):RO:=
 AV.rec (motive_1:=λ_=>(IntKind->Nat->RO)->RO) (motive_2:=λ_=>Unit)
   (λj n k=>k j n) (λ_ _ _=>.no) (λ_ _=>.no) (λ_ _=>.no) (λ_=>.no) (λ_=>.no) (λ_=>.no) (λ_=>.no) (λ_=>.no)
   (λ_ _ _=>.no) (λ_ _ _ _ _=>.no) (λ_ _=>.no) (λ_ _ _ _ _ _=>.no) (λ_ _=>.no) (λ_ _ _=>.no) (λ_ _ _=>.no) () (λ_ _ _ _=>()) a k
def aj6(a:AV)(k k':RO):RO:=
 AV.rec (motive_1:=λ_=>RO->RO->RO) (motive_2:=λ_=>Unit)
   (λ_ _ _ _=>.no) (λ_ _ _ _=>.no) (λb k k'=>bq b k k') (λ_ _ _=>.no) (λ_ _=>.no) (λ_ _=>.no) (λ_ _=>.no) (λ_ _=>.no) (λ_ _=>.no)
   (λ_ _ _ _=>.no) (λ_ _ _ _ _ _=>.no) (λ_ _ _=>.no) (λ_ _ _ _ _ _ _=>.no) (λ_ _ _=>.no) (λ_ _ _ _=>.no) (λ_ _ _ _=>.no) () (λ_ _ _ _=>()) a k k'
def oP(a:AV)(k:Nat->Nat->RO):RO:=
 AV.rec (motive_1:=λ_=>(Nat->Nat->RO)->RO) (motive_2:=λ_=>Unit)
   (λ_ _ _=>.no) (λ_ _ _=>.no) (λ_ _=>.no) (λ_ _=>.no) (λ_=>.no) (λ_=>.no) (λ_=>.no) (λ_=>.no) (λ_=>.no)
   (λb o k=>k b o) (λ_ _ _ _ _=>.no) (λ_ _=>.no) (λ_ _ _ _ _ _=>.no) (λ_ _=>.no) (λ_ _ _=>.no) (λ_ _ _=>.no) () (λ_ _ _ _=>()) a k
def XL(a:AV)(k:Nat->Nat->Nat->E8->RO):RO:=
 AV.rec (motive_1:=λ_=>(Nat->Nat->Nat->E8->RO)->RO) (motive_2:=λ_=>Unit)
   (λ_ _ _=>.no) (λ_ _ _=>.no) (λ_ _=>.no) (λ_ _=>.no) (λ_=>.no) (λ_=>.no) (λ_=>.no) (λ_=>.no) (λ_=>.no)
   (λ_ _ _=>.no) (λb o l c k=>k b o l c) (λ_ _=>.no) (λ_ _ _ _ _ _=>.no) (λ_ _=>.no) (λ_ _ _=>.no) (λ_ _ _=>.no) () (λ_ _ _ _=>()) a k
def bg8(a:AV)(k:FuncId->J7->J7->RO)(ky:Nat->RO):RO:=
 AV.rec (motive_1:=λ_=>(FuncId->J7->J7->RO)->(Nat->RO)->RO) (motive_2:=λ_=>Unit)
   (λ_ _ _ _=>.no) (λ_ _ _ _=>.no) (λ_ _ _=>.no) (λ_ _ _=>.no) (λ_ _=>.no) (λ_ _=>.no) (λ_ _=>.no) (λ_ _=>.no) (λ_ _=>.no)
   (λ_ _ _ _=>.no) (λ_ _ _ _ _ _=>.no) (λ_ _ _=>.no) (λf fs cs _ _ k _=>k f fs cs) (λb _ ky=>ky b) (λ_ _ _ _=>.no) (λ_ _ _ _=>.no) () (λ_ _ _ _=>()) a k ky
def bg7(o:AO)(k:Nat->J7->RO):RO:=
 AO.rec (motive:=λ_=>(Nat->J7->RO)->RO) (λel cs k=>k el cs) (λ_ _=>.no) (λ_ _ _ _ _ _ _=>.no) (λ_ _ _=>.no) (λ_ _ _ _=>.no) o k
def cellsOf(a:AV):J7:=
 AV.rec (motive_1:=λ_=>AV->J7) (motive_2:=λ_=>Unit)
   (λ_ _ a=>[a]) (λ_ _ a=>[a]) (λ_ a=>[a]) (λ_ a=>[a]) (λa=>[a]) (λa=>[a]) (λa=>[a]) (λa=>[a]) (λa=>[a])
   (λ_ _ a=>[a]) (λ_ _ _ _ a=>[a]) (λ_ a=>[a]) (λ_ _ _ _ _ a=>[a]) (λ_ a=>[a]) (λcs _ _=>cs) (λ_ _ _=>[]) () (λ_ _ _ _=>()) a a
end cz8
def uN{α:Type}(n:Nat):List α->Option (List α):=Nat.rec (motive:=λ_=>List α->Option (List α)) (λ_=>some []) (λ_ ih l=>List.rec (motive:=λ_=>Option (List α)) none (λx r _=>oB (ih r) λxs=>some (x::xs)) l) n
def fV{α:Type}(a b:List α):List α:=List.rec (motive:=λ_=>List α) b (λx _ ih=>x::ih) a
def bM8{α:Type}(xs:List α):List α->Option (List α):=
 List.rec (motive:=λ_=>List α->Option (List α)) some (λx _ ih l=>List.rec (motive:=λ_=>Option (List α)) none (λ_ r _=>oB (ih r) λr=>some (x::r)) l) xs
def xG{α:Type}(n:Nat)(xs:List α):List α->Option (List α):=
 Nat.rec (motive:=λ_=>List α->Option (List α)) (bM8 xs) (λ_ ih l=>List.rec (motive:=λ_=>Option (List α)) none (λx r _=>oB (ih r) λr=>some (x::r)) l) n
def jS{α β:Type}(f:α->β)(l:List α):List β:=List.rec (motive:=λ_=>List β) [] (λx _ ih=>f x::ih) l
def dM{α:Type}(l:List α):Nat:=List.rec (motive:=λ_=>Nat) 0 (λ_ _ ih=>Nat.succ ih) l
def BH(a:O1):O1->Bool:=List.rec (motive:=λ_=>O1->Bool) (λb=>List.rec (motive:=λ_=>Bool) true (λ_ _ _=>false) b)
 (λx _ ih b=>List.rec (motive:=λ_=>Bool) false (λy r _=>bq (Nat.beq x y) (ih r) false) b) a
def UE(a:O1):O1->Bool:=List.rec (motive:=λ_=>O1->Bool) (λb=>List.rec (motive:=λ_=>Bool) false (λ_ _ _=>true) b)
 (λx _ ih b=>List.rec (motive:=λ_=>Bool) false (λy r _=>bq (Nat.beq x y) (ih r) (Nat.blt x y)) b) a
section tables
variable(ty:Nat->Option TI)
def ak1(i:TI):wF:=List.rec (motive:=λ_=>wF) (some []) (λx _ ih=>oB (SN x) λa=>oB ih λr=>some (a::r)) i.zero
def XP(i:TI)(n:Nat):wF:=oB (ak1 i) λz=>some (Nat.rec (motive:=λ_=>J7) [] (λ_ ih=>fV z ih) n)
def sizeT(t:Nat):E8:=oB (ty t) λi=>some i.size
def QW(t:Nat):wF:=oB (ty t) λi=>ak1 i
def co6(t:Nat):U7:=oB (ty t) λi=>some i.isAgg
def bs4(t:Nat):Option (Bool×Nat):=oB (ty t) λi=>match i.desc with|.slice el=>some (true,el)|.array _ el=>some (false,el)|_=>none
def bt5(t k:Nat):FH:=oB (ty t) λi=>match i.desc with|.struct fs=>(match fs[k]? with|some f=>some (f.offset,f.type)|none=>none)|_=>none
def aQ4(t:Nat):Bool:=match ty t with|some { desc:=.string, .. }=>true|_=>false
def WO(t:Nat):E8:=oB (ty t) λi=>match i.desc with|.slice el=>some el|_=>none
end tables
end
end Go.Ev
end
section
namespace Go.Ev
open Go Go.F7 Go.Proofs Go.Proofs.YtibiibjbmhckgaaGreatDoor
noncomputable section
def tyB:Bt TI:=(.nd 148 b45 (.nd 63 b93 (.nd 31 b80 (.nd 9 ti9 (.nd 4 ti4 (.nd 3 rW (.nd 2 ti2 .lf .lf) .lf) (.nd 5 ti5 .lf .lf)) (.nd 26 aA1 (.nd 22 aA0 (.nd 21 b57 .lf .lf) .lf) (.nd 27 b71 .lf .lf))) (.nd 50 b89 (.nd 36 b81 (.nd 34 aA2 (.nd 33 JR .lf .lf) .lf) (.nd 47 aA4 .lf .lf)) (.nd 61 b91 (.nd 60 b90 (.nd 52 xO .lf .lf) .lf) (.nd 62 b92 .lf .lf)))) (.nd 104 b37 (.nd 72 b98 (.nd 67 b96 (.nd 65 b95 (.nd 64 b94 .lf .lf) .lf) (.nd 71 b97 .lf .lf)) (.nd 93 ca4 (.nd 90 b99 (.nd 75 aA6 .lf .lf) .lf) (.nd 98 ca5 .lf .lf))) (.nd 125 b42 (.nd 113 b40 (.nd 112 b39 (.nd 108 b38 .lf .lf) .lf) (.nd 115 b41 .lf .lf)) (.nd 136 b43 (.nd 134 JQ .lf .lf) (.nd 145 b44 .lf .lf))))) (.nd 261 b66 (.nd 191 b54 (.nd 177 b49 (.nd 154 az9 (.nd 152 b47 (.nd 149 b46 .lf .lf) .lf) (.nd 156 b48 .lf .lf)) (.nd 183 b52 (.nd 181 b51 (.nd 180 b50 .lf .lf) .lf) (.nd 185 b53 .lf .lf))) (.nd 245 b60 (.nd 217 b58 (.nd 206 b56 (.nd 193 b55 .lf .lf) .lf) (.nd 230 b59 .lf .lf)) (.nd 257 b63 (.nd 254 b62 (.nd 252 b61 .lf .lf) .lf) (.nd 259 b65 .lf .lf)))) (.nd 293 b77 (.nd 271 b72 (.nd 266 b69 (.nd 264 b68 (.nd 262 b67 .lf .lf) .lf) (.nd 268 b70 .lf .lf)) (.nd 280 b75 (.nd 277 b74 (.nd 273 b73 .lf .lf) .lf) (.nd 284 b76 .lf .lf))) (.nd 453 b84 (.nd 367 b82 (.nd 305 b79 (.nd 296 b78 .lf .lf) .lf) (.nd 376 b83 .lf .lf)) (.nd 455 b86 (.nd 454 b85 .lf .lf) (.nd 457 b87 .lf .lf))))))
noncomputable def fnB:Bt Func:=(.nd 189 Tryz.f189 (.nd 100 Tryz.f100 (.nd 58 Tryz.f58 (.nd 29 Tryz.f29 (.nd 20 Tryz.f20 (.nd 11 Tryz.f11 (.nd 9 Tryz.f9 (.nd 5 Tryz.f5 .lf .lf) (.nd 10 Tryz.f10 .lf .lf)) (.nd 15 Tryz.f15 (.nd 12 Tryz.f12 .lf .lf) (.nd 19 Tryz.f19 .lf .lf))) (.nd 24 Tryz.f24 (.nd 22 Tryz.f22 (.nd 21 Tryz.f21 .lf .lf) (.nd 23 Tryz.f23 .lf .lf)) (.nd 26 Tryz.f26 (.nd 25 Tryz.f25 .lf .lf) (.nd 27 Tryz.f27 .lf .lf)))) (.nd 49 Tryz.f49 (.nd 38 Tryz.f38 (.nd 32 Tryz.f32 (.nd 31 Tryz.f31 .lf .lf) (.nd 37 Tryz.f37 .lf .lf)) (.nd 40 Tryz.f40 (.nd 39 Tryz.f39 .lf .lf) (.nd 41 Tryz.f41 .lf .lf))) (.nd 54 Tryz.f54 (.nd 52 Tryz.f52 (.nd 51 Tryz.f51 .lf .lf) (.nd 53 Tryz.f53 .lf .lf)) (.nd 56 Tryz.f56 (.nd 55 Tryz.f55 .lf .lf) (.nd 57 Tryz.f57 .lf .lf))))) (.nd 75 Tryz.f75 (.nd 66 Tryz.f66 (.nd 62 Tryz.f62 (.nd 60 Tryz.f60 (.nd 59 Tryz.f59 .lf .lf) (.nd 61 Tryz.f61 .lf .lf)) (.nd 64 Tryz.f64 (.nd 63 Tryz.f63 .lf .lf) (.nd 65 Tryz.f65 .lf .lf))) (.nd 70 Tryz.f70 (.nd 68 Tryz.f68 (.nd 67 Tryz.f67 .lf .lf) (.nd 69 Tryz.f69 .lf .lf)) (.nd 73 Tryz.f73 (.nd 72 Tryz.f72 .lf .lf) (.nd 74 Tryz.f74 .lf .lf)))) (.nd 85 Tryz.f85 (.nd 79 Tryz.f79 (.nd 77 Tryz.f77 (.nd 76 Tryz.f76 .lf .lf) (.nd 78 Tryz.f78 .lf .lf)) (.nd 83 Tryz.f83 (.nd 82 Tryz.f82 .lf .lf) (.nd 84 Tryz.f84 .lf .lf))) (.nd 89 Tryz.f89 (.nd 87 Tryz.f87 (.nd 86 Tryz.f86 .lf .lf) (.nd 88 Tryz.f88 .lf .lf)) (.nd 93 Tryz.f93 (.nd 91 Tryz.f91 .lf .lf) (.nd 98 Tryz.f98 .lf .lf)))))) (.nd 132 Tryz.f132 (.nd 116 Tryz.f116 (.nd 108 Tryz.f108 (.nd 104 Tryz.f104 (.nd 102 Tryz.f102 (.nd 101 Tryz.f101 .lf .lf) (.nd 103 Tryz.f103 .lf .lf)) (.nd 106 Tryz.f106 (.nd 105 Tryz.f105 .lf .lf) (.nd 107 Tryz.f107 .lf .lf))) (.nd 112 Tryz.f112 (.nd 110 Tryz.f110 (.nd 109 Tryz.f109 .lf .lf) (.nd 111 Tryz.f111 .lf .lf)) (.nd 114 Tryz.f114 (.nd 113 Tryz.f113 .lf .lf) (.nd 115 Tryz.f115 .lf .lf)))) (.nd 124 Tryz.f124 (.nd 120 Tryz.f120 (.nd 118 Tryz.f118 (.nd 117 Tryz.f117 .lf .lf) (.nd 119 Tryz.f119 .lf .lf)) (.nd 122 Tryz.f122 (.nd 121 Tryz.f121 .lf .lf) (.nd 123 Tryz.f123 .lf .lf))) (.nd 128 Tryz.f128 (.nd 126 Tryz.f126 (.nd 125 Tryz.f125 .lf .lf) (.nd 127 Tryz.f127 .lf .lf)) (.nd 130 Tryz.f130 (.nd 129 Tryz.f129 .lf .lf) (.nd 131 Tryz.f131 .lf .lf))))) (.nd 166 Tryz.f166 (.nd 144 Tryz.f144 (.nd 140 Tryz.f140 (.nd 138 Tryz.f138 (.nd 135 Tryz.f135 .lf .lf) (.nd 139 Tryz.f139 .lf .lf)) (.nd 142 Tryz.f142 (.nd 141 Tryz.f141 .lf .lf) (.nd 143 Tryz.f143 .lf .lf))) (.nd 148 Tryz.f148 (.nd 146 Tryz.f146 (.nd 145 Tryz.f145 .lf .lf) (.nd 147 Tryz.f147 .lf .lf)) (.nd 161 Tryz.f161 (.nd 149 Tryz.f149 .lf .lf) (.nd 165 Tryz.f165 .lf .lf)))) (.nd 181 Tryz.f181 (.nd 177 Tryz.f177 (.nd 168 Tryz.f168 (.nd 167 Tryz.f167 .lf .lf) (.nd 170 Tryz.f170 .lf .lf)) (.nd 179 Tryz.f179 (.nd 178 Tryz.f178 .lf .lf) (.nd 180 Tryz.f180 .lf .lf))) (.nd 185 Tryz.f185 (.nd 183 Tryz.f183 (.nd 182 Tryz.f182 .lf .lf) (.nd 184 Tryz.f184 .lf .lf)) (.nd 188 Tryz.f188 (.nd 186 Tryz.f186 .lf .lf) .lf)))))) (.nd 301 Tryz.f301 (.nd 239 Tryz.f239 (.nd 212 Tryz.f212 (.nd 204 Tryz.f204 (.nd 193 Tryz.f193 (.nd 191 Tryz.f191 (.nd 190 Tryz.f190 .lf .lf) (.nd 192 Tryz.f192 .lf .lf)) (.nd 202 Tryz.f202 (.nd 201 Tryz.f201 .lf .lf) (.nd 203 Tryz.f203 .lf .lf))) (.nd 208 Tryz.f208 (.nd 206 Tryz.f206 (.nd 205 Tryz.f205 .lf .lf) (.nd 207 Tryz.f207 .lf .lf)) (.nd 210 Tryz.f210 (.nd 209 Tryz.f209 .lf .lf) (.nd 211 Tryz.f211 .lf .lf)))) (.nd 231 Tryz.f231 (.nd 223 Tryz.f223 (.nd 214 Tryz.f214 (.nd 213 Tryz.f213 .lf .lf) (.nd 220 Tryz.f220 .lf .lf)) (.nd 225 Tryz.f225 (.nd 224 Tryz.f224 .lf .lf) (.nd 230 Tryz.f230 .lf .lf))) (.nd 235 Tryz.f235 (.nd 233 Tryz.f233 (.nd 232 Tryz.f232 .lf .lf) (.nd 234 Tryz.f234 .lf .lf)) (.nd 237 Tryz.f237 (.nd 236 Tryz.f236 .lf .lf) (.nd 238 Tryz.f238 .lf .lf))))) (.nd 276 Tryz.f276 (.nd 254 Tryz.f254 (.nd 250 Tryz.f250 (.nd 247 Tryz.f247 (.nd 246 Tryz.f246 .lf .lf) (.nd 249 Tryz.f249 .lf .lf)) (.nd 252 Tryz.f252 (.nd 251 Tryz.f251 .lf .lf) (.nd 253 Tryz.f253 .lf .lf))) (.nd 260 Tryz.f260 (.nd 257 Tryz.f257 (.nd 256 Tryz.f256 .lf .lf) (.nd 258 Tryz.f258 .lf .lf)) (.nd 274 Tryz.f274 (.nd 262 Tryz.f262 .lf .lf) (.nd 275 Tryz.f275 .lf .lf)))) (.nd 290 Tryz.f290 (.nd 283 Tryz.f283 (.nd 278 Tryz.f278 (.nd 277 Tryz.f277 .lf .lf) (.nd 282 Tryz.f282 .lf .lf)) (.nd 288 Tryz.f288 (.nd 284 Tryz.f284 .lf .lf) (.nd 289 Tryz.f289 .lf .lf))) (.nd 297 Tryz.f297 (.nd 294 Tryz.f294 (.nd 293 Tryz.f293 .lf .lf) (.nd 296 Tryz.f296 .lf .lf)) (.nd 299 Tryz.f299 (.nd 298 Tryz.f298 .lf .lf) (.nd 300 Tryz.f300 .lf .lf)))))) (.nd 369 Tryz.f369 (.nd 327 Tryz.f327 (.nd 319 Tryz.f319 (.nd 312 Tryz.f312 (.nd 310 Tryz.f310 (.nd 309 Tryz.f309 .lf .lf) (.nd 311 Tryz.f311 .lf .lf)) (.nd 317 Tryz.f317 (.nd 316 Tryz.f316 .lf .lf) (.nd 318 Tryz.f318 .lf .lf))) (.nd 323 Tryz.f323 (.nd 321 Tryz.f321 (.nd 320 Tryz.f320 .lf .lf) (.nd 322 Tryz.f322 .lf .lf)) (.nd 325 Tryz.f325 (.nd 324 Tryz.f324 .lf .lf) (.nd 326 Tryz.f326 .lf .lf)))) (.nd 336 Tryz.f336 (.nd 331 Tryz.f331 (.nd 329 Tryz.f329 (.nd 328 Tryz.f328 .lf .lf) (.nd 330 Tryz.f330 .lf .lf)) (.nd 333 Tryz.f333 (.nd 332 Tryz.f332 .lf .lf) (.nd 335 Tryz.f335 .lf .lf))) (.nd 341 Tryz.f341 (.nd 338 Tryz.f338 (.nd 337 Tryz.f337 .lf .lf) (.nd 339 Tryz.f339 .lf .lf)) (.nd 367 Tryz.f367 (.nd 343 Tryz.f343 .lf .lf) (.nd 368 Tryz.f368 .lf .lf))))) (.nd 406 Tryz.f406 (.nd 381 Tryz.f381 (.nd 375 Tryz.f375 (.nd 372 Tryz.f372 (.nd 371 Tryz.f371 .lf .lf) (.nd 373 Tryz.f373 .lf .lf)) (.nd 379 Tryz.f379 (.nd 376 Tryz.f376 .lf .lf) (.nd 380 Tryz.f380 .lf .lf))) (.nd 398 Tryz.f398 (.nd 396 Tryz.f396 (.nd 382 Tryz.f382 .lf .lf) (.nd 397 Tryz.f397 .lf .lf)) (.nd 400 Tryz.f400 (.nd 399 Tryz.f399 .lf .lf) (.nd 401 Tryz.f401 .lf .lf)))) (.nd 450 Tryz.f450 (.nd 433 Tryz.f433 (.nd 430 Tryz.f430 (.nd 409 Tryz.f409 .lf .lf) (.nd 431 Tryz.f431 .lf .lf)) (.nd 435 Tryz.f435 (.nd 434 Tryz.f434 .lf .lf) (.nd 441 Tryz.f441 .lf .lf))) (.nd 456 Tryz.f456 (.nd 452 Tryz.f452 (.nd 451 Tryz.f451 .lf .lf) (.nd 453 Tryz.f453 .lf .lf)) (.nd 479 Tryz.f479 (.nd 470 Tryz.f470 .lf .lf) .lf)))))))
def I7(t:Nat):Option TI:=tyB.get t
def GH(f:Nat):Option Func:=fnB.get f
def TV(p:List Nat):List Nat->Bool:=List.rec (motive:=λ_=>List Nat->Bool) (λ_=>true) (λx _ ih s=>List.rec (motive:=λ_=>Bool) false (λy r _=>bq (Nat.beq x y) (ih r) false) s) p
def idxOf(p:List Nat)(s:List Nat):Nat->Option Nat:=List.rec (motive:=λ_=>Nat->Option Nat) (λi=>bq (TV p []) (some i) none) (λx r ih i=>bq (TV p (x::r)) (some i) (ih (Nat.succ i))) s
def bB9(r:Option Nat):Option AV:=match r with|some i=>fN i λi=>some (.n .i64 i)|none=>some (.neg .i64 0)
def countB(b:Nat)(s:List Nat):Nat:=List.rec (motive:=λ_=>Nat) 0 (λx _ ih=>bq (Nat.beq x b) (Nat.succ ih) ih) s
def aZ0(s:List Nat)(n:Nat):List Nat:=Nat.rec (motive:=λ_=>List Nat) [] (λ_ ih=>fV s ih) n
def aI1(l:List AV):Option AV:=match l with|[.str s,.str p]=>bq (Nat.ble (dM s) 1000000) (bB9 (idxOf p s 0)) none|_=>none
def aI0(l:List AV):Option AV:=match l with|[.str s,.n .u8 b]=>bq (Nat.blt b 256) (fN (countB b s) λn=>some (.n .i64 n)) none|_=>none
def aI4(l:List AV):Option AV:=match l with|[.str s,.n .i64 n]=>bq (Nat.ble n 4096) (bq (Nat.ble (dM s) 1000000) (some (fNs (aZ0 s n) .str)) none) none|_=>none
def aI5(l:List AV):Option AV:=match l with|[.p b o]=>some (.p b o)|_=>none
def aJ9:Bt (List AV->Option AV):=.nd 229 aI1 (.nd 18 aI4 .lf .lf) .lf
def aK2:Bt (List AV->Option AV):=.nd 163 aI5 .lf (.nd 387 aI0 .lf .lf)
def aJ8(f:Nat):Option (List AV->Option AV):=aJ9.get f
def aK1(f:Nat):Option (List AV->Option AV):=aK2.get f
def ab2(f:Nat):Bool:=bq (Nat.beq f 333) true (Nat.beq f 26)
def mM:Nat:=145
def am1:Nat:=115
def mxB:Nat:=0
def WL(t:Nat):Bool:=Nat.beq t 50
end
end Go.Ev
end
